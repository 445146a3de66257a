/-
 MATRIX: identity, units beside; slices.Contains of columns. Own work.
-/
import Derived.Test.YtbcehhemdapjlaaGreatDoorPj
import Derived.Test.YtbcehhemdapjlaaGreatDoorSg
import Derived.Test.YtbcehhemdapjlaaGreatDoorEj
import Derived.Test.YtbcehhemdapjlaaGreatDoorEi
import Derived.Deep.RegionHeld3
import Derived.OwnWalk
import Derived.Test.YtbcehhemdapjlaaGreatDoorSf
import Derived.Test.YtbcehhemdapjlaaGreatDoorEh
import Derived.Test.YtbcehhemdapjlaaGreatDoorRb
set_option linter.unusedVariables false
set_option linter.unusedSimpArgs false
namespace Go.Proofs
open Go Go.Pi Go.RowKit Go.Shelf Go.Ar Go.Mx

/-- a string stored into an own row -/
theorem stG_str {s j e n : Nat} {cs : List D} {q : List UInt8} {N : EP} {E : Env} : stG 1 s j (.own true e n cs) (.str q) N E = (j < cs.length ∧ N (st1 E s (.own true e n (cs.set j (.str q))))) := by
 simp only [stG, D.wr, D.cells, D.mem, D.isPure, D.setMem, List.length_singleton, List.all_cons, List.all_nil, D.one, Bool.and_self, true_and]
 by_cases h : j < cs.length
 ·have e : splice cs j [.str q] = cs.set j (.str q) := by
   simp only [splice, List.length_singleton]
   rw [List.set_eq_take_append_cons_drop, if_pos h]
   simp
  rw [e]
  simp [h, show j + 1 ≤ cs.length by omega]
 ·simp [h, show ¬ j + 1 ≤ cs.length by omega]
/-- columns as data -/
abbrev nats (l : List Nat) : List D := l.map fun x : Nat => .int .i64 x
theorem nats_lst (l : List Nat) : nats l = lst l.length fun k => .int .i64 ((l.getD k 0 : Nat) : Int) := by
 apply List.ext_getElem?
 intro i
 rw [List.getElem?_map]
 by_cases h : i < l.length
 ·rw [lst_at _ h, List.getD_eq_getElem?_getD, List.getElem?_eq_getElem h]; rfl
 ·rw [List.getElem?_eq_none (by omega), List.getElem?_eq_none (by rw [lst_len]; omega)]; rfl
theorem ldC_nats {l : List Nat} {k t : Nat} {N : EP} {E : Env} : ldC false 1 (List.take 1 (List.drop k (l.map fun x : Nat => D.int .i64 x))) t N E = (k < l.length ∧ N (st1 E t (.int .i64 ((l.getD k 0 : Nat) : Int)))) := by
 rw [show (l.map fun x : Nat => D.int .i64 x) = _ from nats_lst l]
 exact ldC_lst fun _ => rfl
theorem repl_lst {α : Type} (n : Nat) (a : α) : (List.replicate n [a]).flatten = lst n fun _ => a := by
 induction n with
 | zero => rfl
 | succ n ih => rw [lst_succ, ← ih, ← List.replicate_append_replicate (n := n) (m := 1) (a := [a]), List.flatten_append]; rfl
theorem Tryz.mzeros (n : Nat) (hn : n ≤ 1000) : Con Tryz.prog Tryz.L 105 [.sl 1 [.str [48]], .int .i64 n] (.own true 28 n (strs n fun _ => 0)) := by
 have h := Tryz.mrepeat 1 n [.str [48]] rfl (by omega) hn
 rw [Nat.mul_one, repl_lst] at h
 rw [show strs n (fun _ => 0) = lst n fun _ => .str [48] from lst_congr fun i _ => by rw [rt_zero.2 rfl]]
 exact h
theorem strs_set (m j : Nat) (r : Nat → Rat) (q : Rat) : (strs m r).set j (.str (rt q)) = strs m fun i => if i = j then q else r i := by
 show (lst m _).set j _ = lst m _
 rw [lst_set]
 exact lst_congr fun i _ => by by_cases h : i = j <;> simp [h]
theorem posn_first {l : List Nat} {k c : Nat} (hz : ∀ t, t < k → l[t]? ≠ some c) (h : l[k]? = some c) : posn l c = some k := by
 unfold posn
 obtain ⟨h1, h2⟩ := List.getElem?_eq_some_iff.1 h
 refine List.findIdx?_eq_some_iff_getElem.2 ⟨h1, by simp [h2], fun j hj => ?_⟩
 have := hz j hj
 rw [List.getElem?_eq_getElem (by omega)] at this
 simpa using this
theorem Tryz.mindexI (l : List Nat) (c : Nat) (hl : l.length ≤ 1000) : Con Tryz.prog Tryz.L 145 [.sl l.length (l.map fun x : Nat => .int .i64 x), .int .i64 c] (.int .i64 (match posn l c with | some t => (t : Int) | none => -1)) := by
 refine rule145 Tryz.hL rfl rfl rfl ?_
 (simp only [pc145, rs145, oU, oC]; refine ev ?_; try exact ⟨⟩)
 refine loopF_of (fun E => ∃ k : Nat, k ≤ l.length ∧ (∀ t, t < k → l[t]? ≠ some c) ∧ E = [(0, .sl l.length (l.map fun x : Nat => .int .i64 x)), (1, .int .i64 c), (7, .int .i64 l.length), (8, .int .i64 k)])
  (fun E => match lk E 8 with | .int _ i => l.length - i.toNat | _ => 0) ⟨0, Nat.zero_le _, fun _ h => absurd h (Nat.not_lt_zero _), rfl⟩ ?_
 rintro _ ⟨k, hk, hz, rfl⟩
 (refine ev ?_; try exact ⟨⟩)
 rw [ldC_nats]
 (refine ev ?_; try exact ⟨⟩)
 refine ⟨fun h3 => ⟨⟨by omega, by omega, by rw [List.length_map]; omega⟩, by omega, fun h4 => ?_, fun h4 => ?_⟩, fun h3 => ?_⟩
 ·have hk2 : k < l.length := by omega
  have e : l[k]? = some c := by
   rw [List.getD_eq_getElem?_getD, List.getElem?_eq_getElem hk2] at h4
   rw [List.getElem?_eq_getElem hk2]
   simp at h4
   have : l[k] = c := by omega
   rw [this]
  rw [posn_first hz e]
 ·refine ⟨by omega, ⟨k + 1, by omega, fun t ht => ?_, by simp⟩, by omega⟩
  by_cases h5 : t = k
  ·subst h5
   intro h6
   rw [List.getD_eq_getElem?_getD, h6] at h4
   exact h4 rfl
  ·exact hz t (by omega)
 ·rw [posn_none.2 fun hc => ?_]
  obtain ⟨t, ht⟩ := List.getElem?_of_mem hc
  exact hz t (by have := (List.getElem?_eq_some_iff.1 ht).1; omega) ht
theorem Tryz.mcontains (l : List Nat) (c : Nat) (hl : l.length ≤ 1000) : Con Tryz.prog Tryz.L 107 [.sl l.length (l.map fun x : Nat => .int .i64 x), .int .i64 c] (.bool (decide (c ∈ l))) := by
 refine rule107 Tryz.hL rfl rfl rfl ?_
 (simp only [pc107, rs107, oU, oC]; refine ev ?_; try exact ⟨⟩)
 refine callF_of (Tryz.mindexI l c hl) ?_
 (refine ev ?_; try exact ⟨⟩)
 cases h : posn l c with
 | none => have := posn_none.1 h; simp [this, dB]
 | some t => have := List.mem_of_getElem? (posn_some h); simp [this, dB]
end Go.Proofs

/-
 MATRIX: reduced without columns, in the plain walk. Own work.
-/
namespace Go.Proofs
open Go Go.Pi Go.RowKit Go.Shelf Go.Ar Go.Mx

set_option maxRecDepth 100000 in
set_option maxHeartbeats 8000000 in
theorem Tryz.mreduced0 (n m : Nat) (F : Mtx) (hn2 : n ≤ 12) (h0 : n = 0 ∨ m = 0) :
  Con Tryz.prog Tryz.L 103 [matD n m F, .int .i64 0] (.tup [matD n m F, .sl 0 [], .str [49]]) := by
 have mixed : Tryz.prog.follows .mixedOrders = true := by kernel_rfl
 have t0 := Tryz.underlying109; have a0 := Tryz.isAgg109; have z0 := Tryz.sizeOf109; have v0 := Tryz.zeroValue109; have u0 := run_underlying Tryz.underlying109
 have t1 := Tryz.underlying59; have a1 := Tryz.isAgg59; have z1 := Tryz.sizeOf59; have v1 := Tryz.zeroValue59; have u1 := run_underlying Tryz.underlying59
 have t2 := Tryz.underlying28; have a2 := Tryz.isAgg28; have z2 := Tryz.sizeOf28; have v2 := Tryz.zeroValue28; have u2 := run_underlying Tryz.underlying28
 have t3 := Tryz.underlying4; have a3 := Tryz.isAgg4; have z3 := Tryz.sizeOf4; have v3 := Tryz.zeroValue4; have u3 := run_underlying Tryz.underlying4
 have t4 := Tryz.underlying3; have a4 := Tryz.isAgg3; have z4 := Tryz.sizeOf3; have v4 := Tryz.zeroValue3; have u4 := run_underlying Tryz.underlying3
 have t5 := Tryz.underlying153; have a5 := Tryz.isAgg153; have z5 := Tryz.sizeOf153; have v5 := Tryz.zeroValue153; have u5 := run_underlying Tryz.underlying153
 have infoRow : (Tryz.prog.info? 59).map (fun i => (i.zero, i.size, i.bytes)) = some (some (.slice none 0 0), 1, 24) := by kernel_rfl
 obtain ⟨ir, hir, hirr⟩ := Option.map_eq_some_iff.1 infoRow
 simp only [Prod.mk.injEq] at hirr
 refine ⟨⟨by kernel_rfl, rfl⟩, fun S W vs hS hL hrep => ?_⟩
 obtain ⟨vm, r1, rfl, hrm, t1'⟩ := hrep.uncons
 obtain ⟨vw, r2, rfl, hrw, t2'⟩ := t1'.uncons
 obtain rfl := hrw.int_inv
 obtain rfl : r2 = [] := List.length_eq_zero_iff.1 t2'.1.symm
 clear t1' t2' hrep hrw
 by_cases hn : n = 0
 ·subst hn
  obtain ⟨a, cap, rfl⟩ : ∃ a cap, vm = .slice a 0 cap := by
   generalize hd : rowsD 0 m F = ds at hrm
   cases hrm <;> exact ⟨_, _, rfl⟩
  show Calls _ _ #[.slice a 0 cap, .int .i64 0] _ _
  go_enter Tryz.func103, Tryz.ntmps103
  go_wp2
  go_loopg [23, 4] 0 (fun gg s23 s4 wr => s23 = .int .i64 0 ∧ s4 = .slice none 0 0 ∧ wr = W)
  case atStart => exact ⟨rfl, rfl, rfl⟩
  case round =>
   obtain ⟨rfl, rfl, rfl⟩ := hrel
   go_wp2
   go_loopg [34, 5, 6] 0 (fun gg s34 s5 s6 wq => s34 = .int .i64 0 ∧ s5 = .slice none 0 0 ∧ s6 = .string ⟨#[49]⟩ ∧ wq = wr)
   case atStart => exact ⟨rfl, rfl, rfl, rfl⟩
   case round =>
    obtain ⟨rfl, rfl, rfl, rfl⟩ := hrel
    go_wp2
    go_ret3
    refine ⟨_, rfl, Below.refl _ _, .tup _ [_, _, _] rfl ?_⟩
    intro i d u hd hu
    match i with
    | 0 => cases hd; cases hu; exact .sl0 none 0 (Nat.zero_le _)
    | 1 => cases hd; cases hu; exact .sl0 none 0 (Nat.zero_le _)
    | 2 => cases hd; cases hu; exact .str [49] (by decide)
    | k + 3 => simp at hd
 ·obtain rfl : m = 0 := h0.resolve_left hn
  obtain ⟨b0, o0, cap0, rv, rfl, hcm0, hrl, hrow⟩ : ∃ b0 o0 cap0, ∃ rv : Nat → Value, vm = .slice (some ⟨b0, o0, none⟩) n cap0 ∧ cap0 ≤ maxLen ∧ b0 < W.heap.size ∧ ∀ k, k < n → W.cell? ⟨b0, o0 + k, none⟩ = some (rv k) ∧ Rep S W (rowD 0 (F k)) (rv k) := by
   generalize hd : rowsD n 0 F = ds at hrm
   cases hrm with
   | sl0 => omega
   | sl _ _ b off cap vs hl h1 hnn hc hr h =>
     subst hd
     rw [rowsD_len] at hl
     have hv : ∀ k, k < n → vs[k]? = some (vs.getD k default) := fun k hk => by rw [List.getD_eq_getElem?_getD, List.getElem?_eq_getElem (by omega)]; rfl
     exact ⟨b, off, cap, fun k => vs.getD k default, rfl, hc, hS b _ (hr 0 _ (hv 0 (by omega))).1, fun k hk => ⟨(hr k _ (hv k hk)).2, h k _ _ (lst_at _ hk) (hv k hk)⟩⟩
  clear hrm
  show Calls _ _ #[.slice (some ⟨b0, o0, none⟩) n cap0, .int .i64 0] _ _
  go_enter Tryz.func103, Tryz.ntmps103
  go_wp2
  go_loopg [23, 4] n (fun gg s23 s4 wr => ∃ (k : Nat) (V : Nat → Value), s23 = .int .i64 k ∧ k ≤ n ∧ n ≤ gg + k ∧ wr.ownsRow W.heap.size 59 1 s4 k (lst k V) ∧ Hid (∀ i, ∃ a c, V i = .slice a 0 c ∧ c ≤ maxLen) ∧ Below W.heap.size W wr)
  case atStart => exact ⟨0, fun _ => .slice none 0 0, rfl, by omega, by omega, World.ownsRow_nil _ _ _ _, fun _ => ⟨none, 0, rfl, Nat.zero_le _⟩, Below.refl _ _⟩
  case round =>
   obtain ⟨k, V, rfl, hk, hgk, q1, HV, hbw⟩ := hrel
   by_cases hlt : k < n
   ·have ck := (hbw.cell (p := ⟨b0, o0 + k, none⟩) hrl).trans (hrow k hlt).1
    have hkz : (k : Int) < (n : Int) := by omega
    have hk0 : (0 : Int) ≤ (k : Int) := Int.natCast_nonneg _
    have hC := (Tryz.mclone 0 (F k) (by omega)).2 S wr [rv k] (fun b j h => Nat.lt_of_lt_of_le (hS b j h) hbw.size) (Tryz.hL W wr hL hbw) (Reps.cons ((hrow k hlt).2.mono (fun _ _ z => z) (fun b o z => hbw.cell (p := ⟨b, o, none⟩) (hS b o z))) .nil)
    go_wp2_with (first
     | (go_at_call 140; refine Calls.mono hC ?_; rintro e W1 ⟨v1, rfl, hb1, hr1⟩; have o1 := own_of_res1 (n := 0) (f := fun j => rt (F k j)) (by kernel_rfl) hr1; obtain ⟨ad1, c1, hv1, hc1⟩ : ∃ a c, v1 = .slice a 0 c ∧ c ≤ maxLen := (by rcases o1.2 with ⟨h1, _⟩ | ⟨b, c, cur, h1, _, _, _, h2, _⟩; exact ⟨none, 0, h1, Nat.zero_le _⟩; exact ⟨_, _, h1, h2⟩); clear hr1 hC; subst hv1; clear o1; have q11 := q1.kept (gr_below (r := none) hb1) (Classical.em _))
     | (at_builtin; refine wpList_append_own _ rfl _ _ 109 rfl W.heap.size 59 ir (.slice none 0 0) 1 24 Tryz.underlying109 hir hirr.1 hirr.2.1 hirr.2.2 rfl (by decide) _ k _ rfl (q11.alloc _) ⟨W1.heap.size, 0, none⟩ 1 1 [.slice ad1 0 c1] rfl rfl (World.news_of_block (heap_alloc_new W1 _)) (by simp [Value.oneCell']) (by unfold maxLen; omega) (by omega) (by simp; have := hb1.size; have := hbw.size; omega) ?_; intro v5 w5 ho5 hg5 hn5))
    have hbl : Below W.heap.size W w5 := ((hbw.trans (hb1.mono hbw.size)).alloc (by have := hb1.size; have := hbw.size; omega) _).grown hg5 (by have := hb1.size; have := hbw.size; simp; omega) (fun k hk => (q1.lt k hk).1)
    have e5 : lst k V ++ [.slice ad1 0 c1] = lst (k + 1) (fun i => if i = k then .slice ad1 0 c1 else V i) := by
     rw [lst_succ, if_pos rfl]
     rw [lst_congr (g := V) (fun i hi => if_neg (by omega))]
    rw [e5] at ho5
    go_roundg (n - (k + 1))
    case measure => omega
    case rel =>
     refine ⟨k + 1, fun i => if i = k then .slice ad1 0 c1 else V i, by go_num, by omega, by omega, ho5, fun i => ?_, hbl⟩
     by_cases e : i = k
     ·simp only [if_pos e]; exact ⟨ad1, c1, rfl, hc1⟩
     ·simp only [if_neg e]; exact HV.out i
   ·have hkz : ¬(k : Int) < (n : Int) := by omega
    obtain rfl : n = k := by omega
    clear hkz hk hgk hrow hrl hcm0
    obtain ⟨wb, hwb⟩ : ∃ wb, wb = wr := ⟨wr, rfl⟩
    subst hwb
    go_wp2
    go_loopg [34, 5, 6] 0 (fun gg s34 s5 s6 wq => s34 = .int .i64 0 ∧ s5 = .slice none 0 0 ∧ s6 = .string ⟨#[49]⟩ ∧ wq = wb)
    case atStart => exact ⟨rfl, rfl, rfl, rfl⟩
    case round =>
     obtain ⟨rfl, rfl, rfl, rfl⟩ := hrel
     go_wp2
     go_ret3
     refine ⟨_, rfl, hbw, .tup _ [_, _, _] rfl ?_⟩
     intro i d u hd hu
     match i with
     | 0 =>
       cases hd; cases hu
       rcases q1.2 with ⟨_, h⟩ | ⟨b, cap, cur, e, hbg, hg, hnc, hcm, _, _⟩
       ·omega
       ·have e2 : u4 = .slice (some ⟨b, 0, none⟩) n cap := e
        show Rep _ _ _ u4
        subst e2
        refine .sl n _ b 0 cap (lst n V) (by rw [rowsD_len, lst_len]) (fun d hd => ?_) hnc hcm (fun i u hu => ⟨.inr ⟨hbg, (Array.getElem?_eq_some_iff.1 hg).1⟩, ?_⟩) (fun i d u hd hu => ?_)
        ·obtain ⟨x, _, rfl⟩ := List.mem_map.1 hd
         rfl
        ·have hlt := (List.getElem?_eq_some_iff.1 hu).1
         rw [lst_len] at hlt
         rw [Nat.zero_add, q1.cellAt i (by omega)]; exact hu
        ·have hlt := (List.getElem?_eq_some_iff.1 hu).1
         rw [lst_len] at hlt
         rw [lst_at _ hlt] at hu
         rw [show rowsD n 0 F = lst n fun i => rowD 0 (F i) from rfl, lst_at _ hlt] at hd
         cases hd; cases hu
         obtain ⟨a, c, e, hc⟩ := HV.out i
         rw [e]
         exact .sl0 a c hc
     | 1 => cases hd; cases hu; exact .sl0 none 0 (Nat.zero_le _)
     | 2 => cases hd; cases hu; exact .str [49] (by decide)
     | k + 3 => simp at hd
end Go.Proofs

/-
 MATRIX: reduced, in the plain walk. Own work.
-/
namespace Go.Proofs
open Go Go.Pi Go.RowKit Go.Shelf Go.Ar Go.Mx

theorem Tryz.infoRow : (Tryz.prog.info? 59).map (fun i => (i.zero, i.size, i.bytes)) = some (some (.slice none 0 0), 1, 24) := by kernel_rfl
theorem Tryz.infoInt : (Tryz.prog.info? 3).map (fun i => (i.zero, i.size, i.bytes)) = some (some (.int .i64 0), 1, 8) := by kernel_rfl
/-- row d by a factor, up to column t -/
def sclT (G : Mtx) (d : Nat) (f : Rat) (t : Nat) : Mtx := fun i k => if i = d ∧ k < t then G i k * f else G i k
/-- the rows before i cleared; and of row i the columns before t -/
def clrT (H : Mtx) (d c i : Nat) : Mtx := fun a => if a = d ∨ i ≤ a then H a else fun b => H a b - H a c * H d b
def clrU (H : Mtx) (d c i t : Nat) : Mtx := fun a b => if a = i ∧ b < t then H i b - H i c * H d b else clrT H d c i a b
theorem sub_zeroM (x y : Rat) : x - 0 * y = x := by grind
theorem rep_strint {S : Nat → Nat → Prop} {w : World} {a : List UInt8} {k : IntKind} {z : Int} {v : Value} (h : Rep S w (.tup [.str a, .int k z]) v) : v = .tuple #[.string ⟨a.toArray⟩, .int k z] := by
 cases h with
 | tup _ vs hl h =>
   match vs, hl, h with
   | [x, y], _, h =>
     have h1 := (h 0 _ _ rfl rfl).str_inv.1
     have h2 := (h 1 _ _ rfl rfl).int_inv
     rw [h1, h2]
set_option maxRecDepth 100000 in
set_option maxHeartbeats 8000000 in
theorem Tryz.mreduced (n m w : Nat) (F : Mtx) (hn : 0 < n) (hn2 : n ≤ 12) (hm : 0 < m) (hm2 : m ≤ 24) (hw : w ≤ m) (hb : ∀ q, q ≤ w → (∀ i, i < n → ∀ j, j < m → rd ((redM n F q).F i j) ≤ 900) ∧ rd ((redM n F q).fac) ≤ 900) :
  Con Tryz.prog Tryz.L 103 [matD n m F, .int .i64 w] (.tup [matD n m (redM n F w).F, .sl (redM n F w).lead.length ((redM n F w).lead.map fun c : Nat => .int .i64 c), .str (rt (redM n F w).fac)]) := by
 have mixed : Tryz.prog.follows .mixedOrders = true := by kernel_rfl
 have t0 := Tryz.underlying109; have a0 := Tryz.isAgg109; have z0 := Tryz.sizeOf109; have v0 := Tryz.zeroValue109; have u0 := run_underlying Tryz.underlying109
 have t1 := Tryz.underlying59; have a1 := Tryz.isAgg59; have z1 := Tryz.sizeOf59; have v1 := Tryz.zeroValue59; have u1 := run_underlying Tryz.underlying59
 have t2 := Tryz.underlying28; have a2 := Tryz.isAgg28; have z2 := Tryz.sizeOf28; have v2 := Tryz.zeroValue28; have u2 := run_underlying Tryz.underlying28
 have t3 := Tryz.underlying4; have a3 := Tryz.isAgg4; have z3 := Tryz.sizeOf4; have v3 := Tryz.zeroValue4; have u3 := run_underlying Tryz.underlying4
 have t4 := Tryz.underlying3; have a4 := Tryz.isAgg3; have z4 := Tryz.sizeOf3; have v4 := Tryz.zeroValue3; have u4 := run_underlying Tryz.underlying3
 have t5 := Tryz.underlying153; have a5 := Tryz.isAgg153; have z5 := Tryz.sizeOf153; have v5 := Tryz.zeroValue153; have u5 := run_underlying Tryz.underlying153
 have t6 := Tryz.underlying32; have a6 := Tryz.isAgg32; have z6 := Tryz.sizeOf32; have v6 := Tryz.zeroValue32; have u6 := run_underlying Tryz.underlying32
 obtain ⟨ir, hir, hirr⟩ := Option.map_eq_some_iff.1 Tryz.infoRow
 simp only [Prod.mk.injEq] at hirr
 obtain ⟨ii, hii, hiir⟩ := Option.map_eq_some_iff.1 Tryz.infoInt
 simp only [Prod.mk.injEq] at hiir
 refine ⟨⟨by kernel_rfl, rfl⟩, fun S W vs hS hL hrep => ?_⟩
 obtain ⟨vm, r1, rfl, hrm, t1'⟩ := hrep.uncons
 obtain ⟨vw, r2, rfl, hrw, t2'⟩ := t1'.uncons
 obtain rfl := hrw.int_inv
 obtain rfl : r2 = [] := List.length_eq_zero_iff.1 t2'.1.symm
 clear t1' t2' hrep hrw
 obtain ⟨b0, o0, cap0, rv, rfl, hcm0, hrl, hrow⟩ : ∃ b0 o0 cap0, ∃ rv : Nat → Value, vm = .slice (some ⟨b0, o0, none⟩) n cap0 ∧ cap0 ≤ maxLen ∧ b0 < W.heap.size ∧ ∀ k, k < n → W.cell? ⟨b0, o0 + k, none⟩ = some (rv k) ∧ Rep S W (rowD m (F k)) (rv k) := by
  generalize hd : rowsD n m F = ds at hrm
  cases hrm with
  | sl0 => omega
  | sl _ _ b off cap vs hl h1 hnn hc hr h =>
    subst hd
    rw [rowsD_len] at hl
    have hv : ∀ k, k < n → vs[k]? = some (vs.getD k default) := fun k hk => by rw [List.getD_eq_getElem?_getD, List.getElem?_eq_getElem (by omega)]; rfl
    exact ⟨b, off, cap, fun k => vs.getD k default, rfl, hc, hS b _ (hr 0 _ (hv 0 hn)).1, fun k hk => ⟨(hr k _ (hv k hk)).2, h k _ _ (lst_at _ hk) (hv k hk)⟩⟩
 have HB : Hid (∀ q, q ≤ w → (∀ i, i < n → ∀ j, j < m → rd ((redM n F q).F i j) ≤ 900) ∧ rd ((redM n F q).fac) ≤ 900) := hb
 clear hb hrm
 show Calls _ _ #[.slice (some ⟨b0, o0, none⟩) n cap0, .int .i64 w] _ _
 go_enter Tryz.func103, Tryz.ntmps103
 go_wp2
 go_loopg [23, 4] n (fun gg s23 s4 wr => ∃ (k : Nat) (B C : Nat → Nat), s23 = .int .i64 k ∧ k ≤ n ∧ n ≤ gg + k ∧ OwnQ wr W.heap.size 59 28 s4 k m B C (fun i j => .string ⟨(rt (F i j)).toArray⟩) ∧ Below W.heap.size W wr)
 case atStart => exact ⟨0, fun _ => 0, fun _ => 0, rfl, by omega, by omega, ⟨World.ownsRow_nil _ _ _ _, fun _ h => absurd h (by omega), fun _ _ h => absurd h (by omega)⟩, Below.refl _ _⟩
 case round =>
  obtain ⟨k, B, C, rfl, hk, hgk, hq, hbw⟩ := hrel
  by_cases hlt : k < n
  ·have ck := (hbw.cell (p := ⟨b0, o0 + k, none⟩) hrl).trans (hrow k hlt).1
   have hkz : (k : Int) < (n : Int) := by omega
   have hk0 : (0 : Int) ≤ (k : Int) := Int.natCast_nonneg _
   have hC := (Tryz.mclone m (F k) (by omega)).2 S wr [rv k] (fun b j h => Nat.lt_of_lt_of_le (hS b j h) hbw.size) (Tryz.hL W wr hL hbw) (Reps.cons ((hrow k hlt).2.mono (fun _ _ z => z) (fun b o z => hbw.cell (p := ⟨b, o, none⟩) (hS b o z))) .nil)
   obtain ⟨q1, q2, q3⟩ := hq
   have HQ : Hid ((∀ i, i < k → wr.ownsRow W.heap.size 28 1 (.slice (some ⟨B i, 0, none⟩) m (C i)) m (lst m fun j => .string ⟨(rt (F i j)).toArray⟩)) ∧ (∀ i j, i < k → j < k → B i = B j → i = j)) := ⟨q2, q3⟩
   clear q2 q3
   go_wp2_with (first
    | (go_at_call 140; refine Calls.mono hC ?_; rintro e W1 ⟨v1, rfl, hb1, hr1⟩; have o1 := own_of_res1 (by kernel_rfl) hr1; obtain ⟨b1, c1, rfl, hb11, hb12⟩ := o1.form hm; clear hr1 hC; have q11 := q1.kept (gr_below (r := none) hb1) (Classical.em _))
    | (at_builtin; refine wpList_append_own _ rfl _ _ 109 rfl W.heap.size 59 ir (.slice none 0 0) 1 24 Tryz.underlying109 hir hirr.1 hirr.2.1 hirr.2.2 rfl (by decide) _ k _ rfl (q11.alloc _) ⟨W1.heap.size, 0, none⟩ 1 1 [.slice (some ⟨b1, 0, none⟩) m c1] rfl rfl (World.news_of_block (heap_alloc_new W1 _)) (by simp [Value.oneCell']) (by unfold maxLen; omega) (by omega) (by simp; have := hb1.size; have := hbw.size; omega) ?_; intro v5 w5 ho5 hg5 hn5))
   have hbl : Below W.heap.size W w5 := ((hbw.trans (hb1.mono hbw.size)).alloc (by have := hb1.size; have := hbw.size; omega) _).grown hg5 (by have := hb1.size; have := hbw.size; simp; omega) (fun k hk => (q1.lt k hk).1)
   have hpush := OwnQ.push (X := fun i j => .string ⟨(rt (F i j)).toArray⟩) ⟨q1, HQ.out.1, HQ.out.2⟩ (by decide) hbw.size hb1 o1 ho5 hg5
   go_roundg (n - (k + 1))
   case measure => omega
   case rel =>
    refine ⟨k + 1, fun i => if i = k then b1 else B i, fun i => if i = k then c1 else C i, by go_num, by omega, by omega, ?_, hbl⟩
    have e : (fun i => if i = k then (fun j => Value.string ⟨(rt (F k j)).toArray⟩) else fun j => Value.string ⟨(rt (F i j)).toArray⟩) = fun i j => Value.string ⟨(rt (F i j)).toArray⟩ := by
     funext i
     split
     ·rename_i e; rw [e]
     ·rfl
    rw [e] at hpush
    exact hpush
  ·have hkz : ¬(k : Int) < (n : Int) := by omega
   obtain rfl : n = k := by omega
   obtain ⟨g, cap, rfl, hM⟩ := hq.whole hn (by decide)
   clear hq hkz hk hgk hrow hrl hcm0
   go_wp2
   go_loopg [34, 5, 6] w (fun gg s34 s5 s6 wr => ∃ (c : Nat) (B C : Nat → Nat), s34 = .int .i64 c ∧ c ≤ w ∧ w ≤ gg + c ∧ OwnM wr W.heap.size 59 28 g cap n m B C (fun i j => .string ⟨(rt ((redM n F c).F i j)).toArray⟩) ∧ wr.ownsRow W.heap.size 3 1 s5 (redM n F c).lead.length ((redM n F c).lead.map fun x : Nat => .int .i64 x) ∧ s6 = .string ⟨(rt (redM n F c).fac).toArray⟩ ∧ (redM n F c).lead.length < n ∧ Below W.heap.size W wr)
   case atStart => exact ⟨0, B, C, rfl, by omega, by omega, hM, World.ownsRow_nil _ _ _ _, by simp [redM, rt_one.2 rfl], hn, hbw⟩
   case round =>
    clear hM hbw
    obtain ⟨c, B, C, rfl, hcw, hgc, hM, hld, rfl, hlk, hbw⟩ := hrel
    have hgd := good_red n F c
    obtain ⟨hb1, hb2⟩ := HB.out c hcw
    have HN : Hid (redM n F (c + 1) = stpM n (redM n F c) c) := rfl
    have HS : Hid (∀ i, i < n → ∀ j, j < m → rd ((redM n F c).F i j) ≤ 900) := hb1
    by_cases hlt : c < w
    ·have hcz : (c : Int) < (w : Int) := by omega
     have hc0 : (0 : Int) ≤ (c : Int) := Int.natCast_nonneg _
     have HG : Hid (GoodR n c (redM n F c)) := hgd
     clear hgd hb1
     generalize redM n F c = s at *
     have hdz : (s.lead.length : Int) ≤ (n : Int) := by omega
     have hd0 : (0 : Int) ≤ (s.lead.length : Int) := Int.natCast_nonneg _
     have hdt : ((s.lead.length : Int)).toNat = s.lead.length := rfl
     have vsl : ∃ ad cp, u5 = .slice ad s.lead.length cp := by
      rcases hld.2 with ⟨h1, h2⟩ | ⟨g, cap, cur, h1, _⟩
      ·exact ⟨none, 0, by rw [h1, h2]⟩
      ·exact ⟨_, _, h1⟩
     obtain ⟨ad, cp, rfl⟩ := vsl
     have hgc' : n ≤ cap := by
      rcases hM.top.2 with ⟨h1, _⟩ | ⟨g', cap', cur, h1, _, _, h2, _⟩
      ·simp at h1
      ·simp only [Value.slice.injEq] at h1
       obtain ⟨_, _, rfl⟩ := h1; exact h2
     have HW : Hid (OwnK W (wr.alloc (.cells #[.int .i64 c] 3)) 59 28 3 g cap n m B C (fun i k => .string ⟨(rt (s.F i k)).toArray⟩) (.slice ad s.lead.length cp) s.lead.length (s.lead.map fun x : Nat => .int .i64 x) wr.heap.size c) := ⟨hM.kept (World.grownBy_alloc wr _ none), hld.alloc _, hbw.alloc hbw.size _, heap_alloc_new wr _⟩
     have hix := fun cap' => Tryz.mindex W.heap.size _ g cap n m B C s.F wr.heap.size s.lead.length c cap' (by omega) (by omega) (by omega) (by omega) HW.out.mat HW.out.boxCell HW.out.boxLt
     clear hM hld hbw
     by_cases hfd : lookM s.F c (n - s.lead.length) s.lead.length < n
     ·simp only [if_pos hfd] at hix
      obtain ⟨hp0, hpk⟩ := (look_spec (Nat.le_of_lt hlk)).1 hfd
      have hst := stp_found (s := s) (c := c) hfd
      rw [← HN.out] at hst
      obtain ⟨j, hj⟩ : ∃ j, lookM s.F c (n - s.lead.length) s.lead.length = s.lead.length + j := ⟨_, (Nat.add_sub_cancel' hpk).symm⟩
      rw [hj] at hst hfd hp0
      simp only [hj, Nat.add_sub_cancel_left] at hix
      obtain ⟨G, hG⟩ : ∃ G, G = swpM s.F s.lead.length (s.lead.length + j) := ⟨_, rfl⟩
      have HT : Hid (redM n F (c + 1) = _) := hst
      have HGd : Hid (G s.lead.length = s.F (s.lead.length + j)) := by show _ = _; rw [hG]; simp [swpM]
      have HP : Hid (G s.lead.length c ≠ 0) := by show _ ≠ _; rw [HGd.out]; exact hp0
      have HB3 : Hid (∀ i, i < n → ∀ k, k < m → rd (G i k) ≤ 900) := fun i hi k hk => by
       rw [hG]; unfold swpM
       split
       ·exact HS.out _ hfd k hk
       ·split
        ·exact HS.out _ hlk k hk
        ·exact HS.out i hi k hk
      have HGG : Hid (G = swpM s.F s.lead.length (s.lead.length + j)) := hG
      have HF : Hid (rd s.fac ≤ 900) := hb2
      have HT2 : Hid ((redM n F (c + 1)).F = clrM (sclM G s.lead.length c) s.lead.length c ∧ (redM n F (c + 1)).lead = s.lead ++ [c]) := ⟨by rw [hst, hG], by rw [hst]⟩
      clear hst hp0 hpk hj hb2 hG
      by_cases hj0 : 0 < j
      focus
       go_wp2_with (go_at_call 141; refine Calls.mono (hix _) ?_; rintro e W2 ⟨rfl, hb2⟩)
       have hK2 := HW.out.below hb2
       have c1 := hK2.mat.topCell (i := s.lead.length) hlk
       have c2 := hK2.mat.topCell (i := s.lead.length + j) hfd
       have f1 := hK2.mat.topFrozen s.lead.length
       have f2 := hK2.mat.topFrozen (s.lead.length + j)
       have n1 : s.lead.length ≠ s.lead.length + j := by omega
       have n2 : s.lead.length + j ≠ s.lead.length := by omega
       have n3 : ¬j = 0 := by omega
       have n4 : ¬0 = j := by omega
       have i1 : (s.lead.length : Int) < (n : Int) := by omega
       have i2 : (s.lead.length : Int) + (j : Int) < (n : Int) := by omega
       have i3 : (0 : Int) ≤ (s.lead.length : Int) + (j : Int) := by omega
       have i4 : ((s.lead.length : Int) + (j : Int)).toNat = s.lead.length + j := by omega
       have i5 : IntKind.i64.wrap ((s.lead.length : Int) + (j : Int)) = (s.lead.length : Int) + (j : Int) := by rw [IntKind.wrap_i64]; omega
       have HK2 : Hid (OwnK W W2 59 28 3 g cap n m B C (fun i k => .string ⟨(rt (s.F i k)).toArray⟩) (.slice ad s.lead.length cp) s.lead.length (s.lead.map fun x : Nat => .int .i64 x) wr.heap.size c) := hK2
       clear hix hK2 hb2
       go_big_region_o
       have hsw := (HK2.out.swap (by decide) hlk hfd).drew
       have HX : Hid (∃ B' C' : Nat → Nat, OwnK W (((W2.setCell ⟨g, s.lead.length, none⟩ (.slice (some ⟨B (s.lead.length + j), 0, none⟩) m (C (s.lead.length + j)))).setCell ⟨g, s.lead.length + j, none⟩ (.slice (some ⟨B s.lead.length, 0, none⟩) m (C s.lead.length))).drew) 59 28 3 g cap n m B' C' (fun i k => .string ⟨(rt (G i k)).toArray⟩) (.slice ad s.lead.length cp) s.lead.length (s.lead.map fun x : Nat => .int .i64 x) wr.heap.size c) := by
        refine ⟨_, _, hsw.congr fun a ha b hb => ?_⟩
        rw [HGG.out]
        unfold swpM
        by_cases e1 : a = s.lead.length
        ·simp only [if_pos e1]
        ·by_cases e2 : a = s.lead.length + j
         ·simp only [if_neg e1, if_pos e2]
         ·simp only [if_neg e1, if_neg e2]
       clear c1 c2 f1 f2 HK2 hsw n1 n2 n3 n4 i1 i2 i3 i4 i5
       generalize (((W2.setCell ⟨g, s.lead.length, none⟩ (.slice (some ⟨B (s.lead.length + j), 0, none⟩) m (C (s.lead.length + j)))).setCell ⟨g, s.lead.length + j, none⟩ (.slice (some ⟨B s.lead.length, 0, none⟩) m (C s.lead.length))).drew) = W3 at HX ⊢
       obtain ⟨B', C', hK3⟩ := HX.out
       clear HX
       have hng := (Tryz.rneg s.fac (by have := HF.out; omega)).2 (fun _ _ => False) W3 [.string ⟨(rt s.fac).toArray⟩] (fun _ _ h => h.elim) (Tryz.hL W _ hL hK3.bel) (Reps.cons (.str _ (by have := rt_len s.fac; have := HF.out; unfold maxLen; omega)) .nil)
       have HK3 : Hid (OwnK W W3 59 28 3 g cap n m B' C' (fun i k => .string ⟨(rt (G i k)).toArray⟩) (.slice ad s.lead.length cp) s.lead.length (s.lead.map fun x : Nat => .int .i64 x) wr.heap.size c) := hK3
       clear hK3
       go_wp2_with (first | (go_at_call 62; refine Calls.mono hng ?_; rintro e W4 ⟨v4, rfl, hb4, hr4⟩; obtain rfl : v4 = .string ⟨(rt (-s.fac)).toArray⟩ := (by cases hr4; rfl); clear hr4 hng; have hK4 := HK3.out.below hb4; clear hb4 HK3) | fail)
       have HFq : Hid ((-s.fac) * G s.lead.length c = (redM n F (c + 1)).fac ∧ rd (-s.fac) ≤ 900) := ⟨by rw [HT.out, HGd.out, if_neg (by omega)], by rw [rd_neg]; exact HF.out⟩
       generalize -s.fac = q at *
       clear hfd hj0
      rotate_left
      focus
       obtain rfl : j = 0 := by omega
       go_wp2_with (go_at_call 141; refine Calls.mono (hix _) ?_; rintro e W4 ⟨rfl, hb2⟩)
       have e0 : G = s.F := by
        rw [HGG.out]; funext i
        unfold swpM
        split
        ·rename_i e; rw [e]; rfl
        ·rename_i e; rw [if_neg (by omega)]
       obtain ⟨B', C', hK4⟩ : ∃ B' C' : Nat → Nat, OwnK W W4 59 28 3 g cap n m B' C' (fun i k => .string ⟨(rt (G i k)).toArray⟩) (.slice ad s.lead.length cp) s.lead.length (s.lead.map fun x : Nat => .int .i64 x) wr.heap.size c := ⟨B, C, by rw [e0]; exact HW.out.below hb2⟩
       have HFq : Hid (s.fac * G s.lead.length c = (redM n F (c + 1)).fac ∧ rd s.fac ≤ 900) := ⟨by rw [HT.out, HGd.out, if_pos (by omega)], HF.out⟩
       clear e0 hb2 hix
       generalize s.fac = q at *
       clear hfd hj0
      all_goals
       clear HT HGd HGG HF HN HS HW
       generalize wr.heap.size = bx at *
       have c1 := hK4.drew.mat.topCell (i := s.lead.length) hlk
       have cr := hK4.drew.mat.rowCell (i := s.lead.length) (j := c) hlk (by omega)
       have cx := hK4.drew.boxCell
       have hz1 : (s.lead.length : Int) < (n : Int) := by omega
       have hz2 : (c : Int) < (m : Int) := by omega
       have hgr : rd (G s.lead.length c) ≤ 900 := HB3.out _ hlk _ (by omega)
       have hlq := rt_len q
       have hlg := rt_len (G s.lead.length c)
       have hq9 := HFq.out.2
       have hmu := (Tryz.rmul q (G s.lead.length c) (by omega) (by omega)).2 (fun _ _ => False) W4.drew [.string ⟨(rt q).toArray⟩, .string ⟨(rt (G s.lead.length c)).toArray⟩] (fun _ _ h => h.elim) (Tryz.hL W _ hL hK4.drew.bel) (Reps.cons (.str _ (by unfold maxLen; omega)) (Reps.cons (.str _ (by unfold maxLen; omega)) .nil))
       have hK5 : Hid (OwnK W W4.drew 59 28 3 g cap n m B' C' (fun i k => .string ⟨(rt (G i k)).toArray⟩) (.slice ad s.lead.length cp) s.lead.length (s.lead.map fun x : Nat => .int .i64 x) bx c) := hK4.drew
       clear hK4 hlq hlg hq9
       go_region_held3 (fun w' => w'.cell? ⟨g, s.lead.length, none⟩ = some (.slice (some ⟨B' s.lead.length, 0, none⟩) m (C' s.lead.length)) ∧ w'.cell? ⟨B' s.lead.length, c, none⟩ = some (.string ⟨(rt (G s.lead.length c)).toArray⟩) ∧ w'.cell? ⟨bx, 0, none⟩ = some (.int .i64 c)) (go_keep)
        (first
         | (go_at_call 32; refine Calls.mono hmu ?_; rintro e W5 ⟨v5, rfl, hb5, hr5⟩; obtain rfl : v5 = .string ⟨(rt (q * G s.lead.length c)).toArray⟩ := (by cases hr5; rfl); clear hr5; have hK6 := hK5.out.below hb5; have d1 := hK6.mat.topCell (i := s.lead.length) hlk; have d2 := hK6.mat.rowCell (i := s.lead.length) (j := c) hlk (by omega); have d3 := hK6.boxCell; clear hb5))
       clear hmu c1 cr cx d1 d2 d3 hK5
       go_wp2_with fail
       have c1 := hK6.drew.mat.topCell (i := s.lead.length) hlk
       have cr := hK6.drew.mat.rowCell (i := s.lead.length) (j := c) hlk (by omega)
       have cx := hK6.drew.boxCell
       have hdv := Tryz.rdiv 1 (G s.lead.length c) (by decide +kernel) (by omega) HP.out
       rw [rt_one.2 rfl] at hdv
       have hdv := hdv.2 (fun _ _ => False) W5.drew [.string ⟨#[49]⟩, .string ⟨(rt (G s.lead.length c)).toArray⟩] (fun _ _ h => h.elim) (Tryz.hL W _ hL hK6.drew.bel) (Reps.cons (.str [49] (by decide)) (Reps.cons (.str _ (by have := rt_len (G s.lead.length c); unfold maxLen; omega)) .nil))
       have hK7 : Hid (OwnK W W5.drew 59 28 3 g cap n m B' C' (fun i k => .string ⟨(rt (G i k)).toArray⟩) (.slice ad s.lead.length cp) s.lead.length (s.lead.map fun x : Nat => .int .i64 x) bx c) := hK6.drew
       clear hK6
       go_region_held3 (fun w' => w'.cell? ⟨g, s.lead.length, none⟩ = some (.slice (some ⟨B' s.lead.length, 0, none⟩) m (C' s.lead.length)) ∧ w'.cell? ⟨B' s.lead.length, c, none⟩ = some (.string ⟨(rt (G s.lead.length c)).toArray⟩) ∧ w'.cell? ⟨bx, 0, none⟩ = some (.int .i64 c)) (go_keep)
        (first
         | (go_at_call 133; refine Calls.mono hdv ?_; rintro e W6 ⟨v6, rfl, hb6, hr6⟩; obtain rfl := rep_strint hr6; clear hr6; have hK8 := hK7.out.below hb6; have d1 := hK8.mat.topCell (i := s.lead.length) hlk; have d2 := hK8.mat.rowCell (i := s.lead.length) (j := c) hlk (by omega); have d3 := hK8.boxCell; clear hb6))
       clear hdv c1 cr cx d2 d3 hK7
       go_wp2_with fail
       have hby : rd (1 / G s.lead.length c) ≤ 901 := by
        have h1 := rd_div 1 (G s.lead.length c)
        have h2 : rd 1 ≤ 1 := by decide +kernel
        omega
       have HBY : Hid (rd (1 / G s.lead.length c) ≤ 901) := hby
       have hlb := rt_len (1 / G s.lead.length c)
       clear hby
       go_loopg [93] m (fun gg s93 wq => ∃ t : Nat, s93 = .int .i64 t ∧ t ≤ m ∧ m ≤ gg + t ∧ OwnK W wq 59 28 3 g cap n m B' C' (fun i k => .string ⟨(rt (sclT G s.lead.length (1 / G s.lead.length c) t i k)).toArray⟩) (.slice ad s.lead.length cp) s.lead.length (s.lead.map fun x : Nat => .int .i64 x) bx c)
       case atStart => exact ⟨0, rfl, by omega, by omega, hK8.congr fun a _ b _ => by simp [sclT]⟩
       case round =>
        clear hK8 d1
        obtain ⟨t, rfl, ht, hgt, hK⟩ := hrel
        by_cases htm : t < m
        ·have htz : (t : Int) < (m : Int) := by omega
         have ht0 : (0 : Int) ≤ (t : Int) := Int.natCast_nonneg _
         have cr := hK.mat.rowCell (i := s.lead.length) (j := t) hlk htm
         rw [show sclT G s.lead.length (1 / G s.lead.length c) t s.lead.length t = G s.lead.length t from if_neg (by omega)] at cr
         go_wp2_with fail
         have hgt9 : rd (G s.lead.length t) ≤ 900 := HB3.out _ hlk _ htm
         have hlt9 := rt_len (G s.lead.length t)
         have hby := HBY.out
         have hmu := (Tryz.rmul (G s.lead.length t) (1 / G s.lead.length c) (by omega) (by omega)).2 (fun _ _ => False) wr.drew [.string ⟨(rt (G s.lead.length t)).toArray⟩, .string ⟨(rt (1 / G s.lead.length c)).toArray⟩] (fun _ _ h => h.elim) (Tryz.hL W _ hL hK.drew.bel) (Reps.cons (.str _ (by unfold maxLen; omega)) (Reps.cons (.str _ (by unfold maxLen; omega)) .nil))
         have c1 := hK.drew.mat.topCell (i := s.lead.length) hlk
         have fr := hK.drew.mat.rowFrozen (i := s.lead.length) hlk t
         have cr : wr.drew.cell? ⟨B' s.lead.length, t, none⟩ = some (.string ⟨(rt (G s.lead.length t)).toArray⟩) := cr
         have hKd : Hid (OwnK W wr.drew 59 28 3 g cap n m B' C' (fun i k => .string ⟨(rt (sclT G s.lead.length (1 / G s.lead.length c) t i k)).toArray⟩) (.slice ad s.lead.length cp) s.lead.length (s.lead.map fun x : Nat => .int .i64 x) bx c) := hK.drew
         clear hK hby hlt9
         have n1 := hKd.out.mat.ne _ hlk
         have n2 := n1.symm
         go_region_held3 (fun w' => w'.cell? ⟨g, s.lead.length, none⟩ = some (.slice (some ⟨B' s.lead.length, 0, none⟩) m (C' s.lead.length))) (go_keep)
          (first
           | (go_at_call 32; refine Calls.mono hmu ?_; rintro e W7 ⟨v7, rfl, hb7, hr7⟩; obtain rfl : v7 = .string ⟨(rt (G s.lead.length t * (1 / G s.lead.length c))).toArray⟩ := (by cases hr7; rfl); clear hr7; have hK9 := hKd.out.below hb7; have d1 := hK9.mat.topCell (i := s.lead.length) hlk; have d2 := (hb7.cell (p := ⟨B' s.lead.length, t, none⟩) (hKd.out.mat.rowLt hlk).2).trans cr; have d3 := hK9.mat.rowFrozen (i := s.lead.length) hlk t; clear hb7))
         have hK10 : Hid (OwnK W (W7.setCell ⟨B' s.lead.length, t, none⟩ (.string ⟨(rt (G s.lead.length t * (1 / G s.lead.length c))).toArray⟩)) 59 28 3 g cap n m B' C' (fun i k => .string ⟨(rt (sclT G s.lead.length (1 / G s.lead.length c) (t + 1) i k)).toArray⟩) (.slice ad s.lead.length cp) s.lead.length (s.lead.map fun x : Nat => .int .i64 x) bx c) := (hK9.setRow (by decide) hlk t _).congr fun a _ b _ => by
          unfold sclT
          by_cases e1 : a = s.lead.length
          ·by_cases e2 : b = t
           ·rw [if_pos ⟨e1, e2⟩, if_pos ⟨e1, by omega⟩, e1, e2]
           ·rw [if_neg (fun h => e2 h.2)]
            by_cases e3 : b < t
            ·rw [if_pos ⟨e1, e3⟩, if_pos ⟨e1, by omega⟩]
            ·rw [if_neg (fun h => e3 h.2), if_neg (fun h => by have := h.2; omega)]
          ·rw [if_neg (fun h => e1 h.1), if_neg (fun h => e1 h.1), if_neg (fun h => e1 h.1)]
         clear hK9 d1 d2 d3 n1 n2 hmu c1 fr hKd
         go_wp2_with fail
         go_roundg (m - (t + 1))
         case measure => omega
         case rel => exact ⟨t + 1, by go_num, by omega, by omega, hK10.out⟩
        ·have htz : ¬(t : Int) < (m : Int) := by omega
         obtain rfl : m = t := by omega
         have hK11 : Hid (OwnK W wr 59 28 3 g cap n m B' C' (fun i k => .string ⟨(rt (sclM G s.lead.length c i k)).toArray⟩) (.slice ad s.lead.length cp) s.lead.length (s.lead.map fun x : Nat => .int .i64 x) bx c) := hK.congr fun a _ b hb => by
          unfold sclT sclM
          by_cases e1 : a = s.lead.length
          ·rw [if_pos ⟨e1, hb⟩, if_pos e1, e1, Rat.div_def, Rat.div_def, Rat.one_mul]
          ·rw [if_neg (fun h => e1 h.1), if_neg e1]
         clear hK
         go_wp2_with fail
         have HR : Hid (∀ a, a < n → ∀ b, b < m → rd (sclM G s.lead.length c a b) ≤ 1800) := fun a ha b hb => by
          unfold sclM
          split
          ·have h1 := rd_div (G s.lead.length b) (G s.lead.length c)
           have h2 := HB3.out _ hlk b hb
           show rd (G s.lead.length b / G s.lead.length c) ≤ 1800
           omega
          ·have := HB3.out a ha b hb; omega
         obtain ⟨H, hH⟩ : ∃ H, H = sclM G s.lead.length c := ⟨_, rfl⟩
         have HH : Hid (H = sclM G s.lead.length c) := hH
         rw [← hH] at hK11 HR HT2
         clear hH htz htm ht hgt hlb
         have hcm : c < m := by omega
         go_loopg [110] n (fun gg s110 wq => ∃ i : Nat, s110 = .int .i64 i ∧ i ≤ n ∧ n ≤ gg + i ∧ OwnK W wq 59 28 3 g cap n m B' C' (fun a b => .string ⟨(rt (clrT H s.lead.length c i a b)).toArray⟩) (.slice ad s.lead.length cp) s.lead.length (s.lead.map fun x : Nat => .int .i64 x) bx c)
         case atStart => exact ⟨0, rfl, by omega, by omega, hK11.out.congr fun a _ b _ => by unfold clrT; rw [if_pos (.inr (Nat.zero_le _))]⟩
         case round =>
          clear hK11
          obtain ⟨i, rfl, hi, hgi, hK⟩ := hrel
          by_cases hin : i < n
          ·have hiz : (i : Int) < (n : Int) := by omega
           have hi0 : (0 : Int) ≤ (i : Int) := Int.natCast_nonneg _
           by_cases hid : i = s.lead.length
           ·subst hid
            have ct := hK.mat.topCell (i := s.lead.length) hin
            go_wp2_with fail
            go_roundg (n - (s.lead.length + 1))
            case measure => omega
            case rel =>
             refine ⟨s.lead.length + 1, by go_num, by omega, by omega, hK.congr fun a ha b hb => ?_⟩
             unfold clrT
             by_cases e1 : a = s.lead.length
             ·rw [if_pos (.inl e1), if_pos (.inl e1)]
             ·by_cases e2 : s.lead.length ≤ a
              ·rw [if_pos (.inr e2), if_pos (.inr (by omega))]
              ·rw [if_neg (by omega), if_neg (by omega)]
           ·have hidz : ¬(i : Int) = (s.lead.length : Int) := by omega
            have hidb : ((i : Int) == (s.lead.length : Int)) = false := beq_false_of_ne hidz
            have ct := hK.mat.topCell (i := i) hin
            have cx := hK.boxCell
            have cr := hK.mat.rowCell (i := i) (j := c) hin hcm
            rw [show clrT H s.lead.length c i i c = H i c by unfold clrT; rw [if_pos (.inr (Nat.le_refl _))]] at cr
            by_cases hz0 : H i c = 0
            ·rw [rt_zero.2 hz0] at cr
             have HZ : Hid (H i c = 0) := hz0
             clear hz0
             go_wp2_with fail
             go_roundg (n - (i + 1))
             case measure => omega
             case rel =>
              refine ⟨i + 1, by go_num, by omega, by omega, hK.congr fun a ha b hb => ?_⟩
              unfold clrT
              by_cases e1 : a = i
              ·rw [if_pos (.inr (by omega)), if_neg (by omega), e1, HZ.out]
               rw [sub_zeroM]
              ·by_cases e2 : a = s.lead.length ∨ i ≤ a
               ·rw [if_pos e2, if_pos (by omega)]
               ·rw [if_neg e2, if_neg (by omega)]
            ·have hzr : (rt (H i c) == [48]) = false := by rw [Bool.eq_false_iff]; simp [rt_zero, hz0]
             have ctd := hK.mat.topCell (i := s.lead.length) hlk
             clear hz0
             go_wp2_with fail
             clear ct cx cr ctd hzr
             have HID : Hid (i ≠ s.lead.length) := hid
             clear hid hidz
             obtain ⟨hbx, hHbx⟩ : ∃ z, z = bx := ⟨bx, rfl⟩
             go_loopg [134] m (fun gg s134 wz => ∃ t : Nat, s134 = .int .i64 t ∧ t ≤ m ∧ m ≤ gg + t ∧ OwnK W wz 59 28 3 g cap n m B' C' (fun a b => .string ⟨(rt (clrU H s.lead.length c i t a b)).toArray⟩) (.slice ad s.lead.length cp) s.lead.length (s.lead.map fun x : Nat => .int .i64 x) bx c)
             case atStart => exact ⟨0, rfl, by omega, by omega, hK.congr fun a _ b _ => by unfold clrU; rw [if_neg (fun h => absurd h.2 (Nat.not_lt_zero _))]⟩
             case round =>
              clear hK
              obtain ⟨t, rfl, ht, hgt, hK⟩ := hrel
              by_cases htm : t < m
              ·have htz : (t : Int) < (m : Int) := by omega
               have ht0 : (0 : Int) ≤ (t : Int) := Int.natCast_nonneg _
               have crd := hK.mat.rowCell (i := s.lead.length) (j := t) hlk htm
               rw [show clrU H s.lead.length c i t s.lead.length t = H s.lead.length t by unfold clrU clrT; rw [if_neg (fun h => HID.out h.1.symm), if_pos (.inl rfl)]] at crd
               go_wp2_with fail
               have x1 : rd (H i t) ≤ 1800 := HR.out _ hin _ htm
               have x2 : rd (H s.lead.length t) ≤ 1800 := HR.out _ hlk _ htm
               have x3 : rd (H i c) ≤ 1800 := HR.out _ hin _ hcm
               have x4 := rd_mul (H i c) (H s.lead.length t)
               have l1 := rt_len (H i t); have l2 := rt_len (H s.lead.length t); have l3 := rt_len (H i c); have l4 := rt_len (H i c * H s.lead.length t)
               have hmu := (Tryz.rmul (H i c) (H s.lead.length t) (by omega) (by omega)).2 (fun _ _ => False) wr.drew [.string ⟨(rt (H i c)).toArray⟩, .string ⟨(rt (H s.lead.length t)).toArray⟩] (fun _ _ h => h.elim) (Tryz.hL W _ hL hK.drew.bel) (Reps.cons (.str _ (by unfold maxLen; omega)) (Reps.cons (.str _ (by unfold maxLen; omega)) .nil))
               have hsu := fun (S' : Nat → Nat → Prop) (w' : World) (h1 : ∀ b j, S' b j → b < w'.heap.size) (h2 : Below W.heap.size W w') => (Tryz.rsub (H i t) (H i c * H s.lead.length t) (by omega) (by omega)).2 S' w' [.string ⟨(rt (H i t)).toArray⟩, .string ⟨(rt (H i c * H s.lead.length t)).toArray⟩] h1 (Tryz.hL W _ hL h2) (Reps.cons (.str _ (by unfold maxLen; omega)) (Reps.cons (.str _ (by unfold maxLen; omega)) .nil))
               have ctp := hK.drew.mat.topCell (i := i) hin
               have fri := hK.drew.mat.rowFrozen (i := i) hin t
               have cri := hK.drew.mat.rowCell (i := i) (j := t) hin htm
               rw [show clrU H s.lead.length c i t i t = H i t by unfold clrU clrT; rw [if_neg (fun h => absurd h.2 (Nat.lt_irrefl _)), if_pos (.inr (Nat.le_refl _))]] at cri
               have n1 := hK.mat.ne i hin
               have n2 := n1.symm
               have hKd : Hid (OwnK W wr.drew 59 28 3 g cap n m B' C' (fun a b => .string ⟨(rt (clrU H s.lead.length c i t a b)).toArray⟩) (.slice ad s.lead.length cp) s.lead.length (s.lead.map fun x : Nat => .int .i64 x) bx c) := hK.drew
               clear hK x1 x2 x3 x4 l1 l2 l3 l4 crd
               go_region_with
                (first
                 | (go_at_call 32; refine Calls.mono hmu ?_; rintro e W7 ⟨v7, rfl, hb7, hr7⟩; obtain rfl : v7 = .string ⟨(rt (H i c * H s.lead.length t)).toArray⟩ := (by cases hr7; rfl); clear hr7; have hK8 := hKd.out.below hb7; have e1 := hK8.mat.topCell (i := i) hin; have e2 := (hb7.cell (p := ⟨B' i, t, none⟩) (hKd.out.mat.rowLt hin).2).trans cri; have e3 := hK8.mat.rowFrozen (i := i) hin t; clear hb7)
                 | (go_at_call 99; refine Calls.mono (hsu (fun _ _ => False) _ (fun _ _ h => h.elim) hK8.bel) ?_; rintro e W9 ⟨v9, rfl, hb9, hr9⟩; obtain rfl : v9 = (.string ⟨(rt (H i t - H i c * H s.lead.length t)).toArray⟩) := (by cases hr9; rfl); clear hr9; have hK9 := hK8.below hb9; have d1 := hK9.mat.topCell (i := i) hin; have d2 := (hb9.cell (p := ⟨B' i, t, none⟩) (hK8.mat.rowLt hin).2).trans e2; have d3 := hK9.mat.rowFrozen (i := i) hin t; clear hb9))
               all_goals
                have hK10 : Hid (OwnK W (W9.setCell ⟨B' i, t, none⟩ (.string ⟨(rt (H i t - H i c * H s.lead.length t)).toArray⟩)) 59 28 3 g cap n m B' C' (fun a b => .string ⟨(rt (clrU H s.lead.length c i (t + 1) a b)).toArray⟩) (.slice ad s.lead.length cp) s.lead.length (s.lead.map fun x : Nat => .int .i64 x) bx c) := (hK9.setRow (by decide) hin t _).congr fun a _ b _ => by
                 unfold clrU
                 by_cases e1 : a = i
                 ·by_cases e2 : b = t
                  ·rw [if_pos ⟨e1, e2⟩, if_pos ⟨e1, by omega⟩, e2]
                  ·rw [if_neg (fun h => e2 h.2)]
                   by_cases e3 : b < t
                   ·rw [if_pos ⟨e1, e3⟩, if_pos ⟨e1, by omega⟩]
                   ·rw [if_neg (fun h => e3 h.2), if_neg (fun h => by have := h.2; omega)]
                 ·rw [if_neg (fun h => e1 h.1), if_neg (fun h => e1 h.1), if_neg (fun h => e1 h.1)]
                clear hK9 d1 d2 d3 n1 n2 hmu hsu fri cri ctp hKd
                go_wp2_with fail
                go_roundg (m - (t + 1))
                case measure => omega
                case rel => exact ⟨t + 1, by go_num, by omega, by omega, hK10.out⟩
              ·have htz : ¬(t : Int) < (m : Int) := by omega
               obtain rfl : m = t := by omega
               go_wp2_with fail
               go_roundg (n - (i + 1))
               case measure => omega
               case rel =>
                refine ⟨i + 1, by go_num, by omega, by omega, hK.congr fun a ha b hb => ?_⟩
                unfold clrU
                by_cases e1 : a = i
                ·have := HID.out
                 rw [if_pos ⟨e1, hb⟩]
                 unfold clrT
                 rw [if_neg (by omega), e1]
                ·rw [if_neg (fun h => e1 h.1)]
                 unfold clrT
                 by_cases e2 : a = s.lead.length ∨ i ≤ a
                 ·rw [if_pos e2, if_pos (by omega)]
                 ·rw [if_neg e2, if_neg (by omega)]
          ·have hiz : ¬(i : Int) < (n : Int) := by omega
           obtain rfl : n = i := by omega
           have hK12 : Hid (OwnK W wr 59 28 3 g cap n m B' C' (fun a b => .string ⟨(rt (clrM H s.lead.length c a b)).toArray⟩) (.slice ad s.lead.length cp) s.lead.length (s.lead.map fun x : Nat => .int .i64 x) bx c) := hK.congr fun a ha b hb => by
            unfold clrT clrM
            by_cases e1 : a = s.lead.length
            ·rw [if_pos (.inl e1), if_pos e1, e1]
            ·rw [if_neg (by omega), if_neg e1]
           clear hK
           have cx := hK12.out.boxCell
           have hld := hK12.out.ld
           have hbl := hK12.out.bel.size
           by_cases hfu : s.lead.length + 1 = n
           ·go_wp2_with (first
             | (at_builtin; refine wpList_append_own _ rfl _ _ 153 rfl W.heap.size 3 ii (.int .i64 0) 1 8 Tryz.underlying153 hii hiir.1 hiir.2.1 hiir.2.2 rfl (by decide) _ s.lead.length _ rfl (hld.alloc _) ⟨wr.heap.size, 0, none⟩ 1 1 [.int .i64 c] rfl rfl (World.news_of_block (heap_alloc_new wr _)) (by simp [Value.oneCell']) (by unfold maxLen; omega) (by omega) (by simp; omega) ?_; intro v5 w5 ho5 hg5 hn5; obtain ⟨b5, c5, rfl, hb51, hb52⟩ := ho5.form (by omega)))
            obtain ⟨hM5, hB5⟩ := hK12.out.grown (by decide) (by decide) hg5
            have hl5 : w5.ownsRow W.heap.size 3 1 (.slice (some ⟨b5, 0, none⟩) (s.lead.length + 1) c5) (s.lead ++ [c]).length ((s.lead ++ [c]).map fun x : Nat => .int .i64 x) := by rw [List.map_append, List.length_append]; exact ho5
            clear ho5 hg5 hn5 hK12 hld
            go_ret3
            obtain ⟨r1, r2, r3⟩ := red_full (n := n) (F := F) (w := c + 1) (by rw [HT2.out.2, List.length_append]; exact hfu) (w - (c + 1))
            rw [show c + 1 + (w - (c + 1)) = w by omega] at r1 r2 r3
            have hbd := HB.out (c + 1) (by omega)
            rw [HT2.out.1, ← HFq.out.1] at hbd
            refine ⟨_, rfl, hB5, ?_⟩
            rw [r1, r2, r3, HT2.out.1, HT2.out.2, ← HFq.out.1]
            have hL1 : ∀ i, i < n → ∀ j, j < m → (rt (clrM H s.lead.length c i j)).length ≤ maxLen := fun i hi j hj => by
             have := rt_len (clrM H s.lead.length c i j); have := hbd.1 i hi j hj; unfold maxLen; omega
            have hL2 : (rt (q * G s.lead.length c)).length ≤ maxLen := by have := rt_len (q * G s.lead.length c); have := hbd.2; unfold maxLen; omega
            rw [hfu] at hl5
            exact res_red (n := n) (m := m) (f := fun i j => rt (clrM H s.lead.length c i j)) hM5 hl5 hL1 hL2
           ·go_wp2_with (first
             | (at_builtin; refine wpList_append_own _ rfl _ _ 153 rfl W.heap.size 3 ii (.int .i64 0) 1 8 Tryz.underlying153 hii hiir.1 hiir.2.1 hiir.2.2 rfl (by decide) _ s.lead.length _ rfl (hld.alloc _) ⟨wr.heap.size, 0, none⟩ 1 1 [.int .i64 c] rfl rfl (World.news_of_block (heap_alloc_new wr _)) (by simp [Value.oneCell']) (by unfold maxLen; omega) (by omega) (by simp; omega) ?_; intro v5 w5 ho5 hg5 hn5; obtain ⟨b5, c5, rfl, hb51, hb52⟩ := ho5.form (by omega)))
            obtain ⟨hM5, hB5⟩ := hK12.out.grown (by decide) (by decide) hg5
            have hl5 : w5.ownsRow W.heap.size 3 1 (.slice (some ⟨b5, 0, none⟩) (s.lead.length + 1) c5) (s.lead ++ [c]).length ((s.lead ++ [c]).map fun x : Nat => .int .i64 x) := by rw [List.map_append, List.length_append]; exact ho5
            clear ho5 hg5 hn5 hK12 hld
            have hM6 : OwnM w5 W.heap.size 59 28 g cap n m B' C' (fun i j => .string ⟨(rt ((redM n F (c + 1)).F i j)).toArray⟩) := by rw [HT2.out.1]; exact hM5
            have hl6 : w5.ownsRow W.heap.size 3 1 (.slice (some ⟨b5, 0, none⟩) (s.lead.length + 1) c5) (redM n F (c + 1)).lead.length ((redM n F (c + 1)).lead.map fun x : Nat => .int .i64 x) := by rw [HT2.out.2]; exact hl5
            have hlt6 : (redM n F (c + 1)).lead.length < n := by rw [HT2.out.2, List.length_append, List.length_singleton]; omega
            have hf6 : Value.string ⟨(rt (q * G s.lead.length c)).toArray⟩ = .string ⟨(rt (redM n F (c + 1)).fac).toArray⟩ := by rw [← HFq.out.1]
            clear hM5 hl5
            go_roundg (w - (c + 1))
            case measure => omega
            case rel => exact ⟨c + 1, B', C', by go_num, by omega, by omega, hM6, hl6, hf6, hlt6, hB5⟩
     ·simp only [if_neg hfd] at hix
      have hst := stp_not (s := s) (c := c) hfd
      have HT : Hid (redM n F (c + 1) = { s with gap := true }) := by show _ = _; rw [HN.out, hst]
      clear hfd hst
      go_wp2_with (go_at_call 141; refine Calls.mono (hix _) ?_; rintro e W2 ⟨rfl, hb2⟩)
      have hK2 := HW.out.below hb2
      clear hix HW
      go_roundg (w - (c + 1))
      case measure => omega
      case rel => exact ⟨c + 1, B, C, by go_num, by omega, by omega, by rw [HT.out]; exact hK2.mat, by rw [HT.out]; exact hK2.ld, by rw [HT.out], by rw [HT.out]; exact hlk, hK2.bel⟩
    ·have hcz : ¬(c : Int) < (w : Int) := by omega
     obtain rfl : w = c := by omega
     go_wp2
     go_ret3
     have hL1 : ∀ i, i < n → ∀ j, j < m → (rt ((redM n F w).F i j)).length ≤ maxLen := fun i hi j hj => by
      have := rt_len ((redM n F w).F i j); have := hb1 i hi j hj; unfold maxLen; omega
     have hL2 : (rt (redM n F w).fac).length ≤ maxLen := by have := rt_len (redM n F w).fac; unfold maxLen; omega
     exact ⟨_, rfl, hbw, res_red (n := n) (m := m) (f := fun i j => rt ((redM n F w).F i j)) hM hld hL1 hL2⟩
end Go.Proofs

/-
 MATRIX: the functions: reduced for any size, Reduce, Rank, square, Determinant, list, Apply, Identity, Transpose, Mul. Own work.
-/
namespace Go.Proofs
open Go Go.Pi Go.RowKit Go.Shelf Go.Ar Go.Mx

/-- all numbers under way are of a bounded size -/
def Bnd (n m w : Nat) (F : Mtx) : Prop := ∀ q, q ≤ w → (∀ i, i < n → ∀ j, j < m → rd ((redM n F q).F i j) ≤ 900) ∧ rd ((redM n F q).fac) ≤ 900
theorem Tryz.mred (n m w : Nat) (F : Mtx) (hn2 : n ≤ 12) (hm2 : m ≤ 24) (hw : w ≤ m) (h0 : n = 0 → w = 0) (hb : Bnd n m w F) :
  Con Tryz.prog Tryz.L 103 [matD n m F, .int .i64 w] (.tup [matD n m (redM n F w).F, .sl (redM n F w).lead.length ((redM n F w).lead.map fun c : Nat => .int .i64 c), .str (rt (redM n F w).fac)]) := by
 by_cases h : n = 0 ∨ m = 0
 ·obtain rfl : w = 0 := by rcases h with h | h; exact h0 h; omega
  have := Tryz.mreduced0 n m F hn2 h
  simp only [redM, List.length_nil, List.map_nil]
  rw [rt_one.2 rfl]
  exact this
 ·exact Tryz.mreduced n m w F (by omega) hn2 (by omega) hm2 hw hb
theorem lead_len {n w : Nat} (F : Mtx) : (redM n F w).lead.length ≤ n := (good_red n F w).len
theorem lead_w {n w : Nat} (F : Mtx) : (redM n F w).lead.length ≤ w := by
 have h := good_red n F w
 have := free_count h.inc h.lt
 omega
end Go.Proofs

/-
 MATRIX: lists of texts; list, Apply, Identity, Transpose, Mul. Own work.
-/
namespace Go.Proofs
open Go Go.Pi Go.RowKit Go.Shelf Go.Ar Go.Mx

/-- texts as data -/
abbrev txs (l : List (List UInt8)) : List D := l.map .str
/-- the number of a right text -/
noncomputable def val (s : List UInt8) : Rat := @dite _ (∃ q, s = rt q) (Classical.propDecidable _) (fun h => h.choose) (fun _ => 0)
noncomputable def vals (l : List (List UInt8)) : Nat → Rat := fun k => val (l.getD k [])
theorem Tryz.mlist0 (n : Nat) (x : Nat → Rat) (hn : n ≤ 1000) (h : Rt n x) : Con Tryz.prog Tryz.L 101 [rowD n x, .int .i64 n] (.int .i64 0) := by
 refine rule101 Tryz.hL rfl rfl rfl ?_
 (simp only [pc101, rs101, oU, oC]; refine ev ?_; try exact ⟨⟩)
 refine callF_of (Tryz.mnumbers n x hn h) ?_
 (refine ev ?_; try exact ⟨⟩)
def SzA (n m : Nat) (F : Mtx) (x : Nat → Rat) : Prop := (∀ i, i < n → ∀ j, j < m → rd (F i j) + rd (x j) ≤ 4000) ∧ (∀ i, i < n → ∀ k, k ≤ m → rd (dotM k (F i) x) ≤ 5000)
end Go.Proofs

/-
 MATRIX: cells of data; overwriting at leading columns. Own work.
-/
namespace Go.Proofs
open Go Go.Pi Go.RowKit Go.Shelf Go.Ar Go.Mx

theorem mat_cells {S : Nat → Nat → Prop} {W : World} {n m : Nat} {F : Mtx} {v : Value} (h : Rep S W (matD n m F) v) (hn : 0 < n) (hm : 0 < m) :
  ∃ (b o cap : Nat) (bv ov cv : Nat → Nat), v = .slice (some ⟨b, o, none⟩) n cap ∧ n ≤ cap ∧ ∀ k, k < n → S b (o + k) ∧ W.cell? ⟨b, o + k, none⟩ = some (.slice (some ⟨bv k, ov k, none⟩) m (cv k)) ∧ ∀ j, j < m → S (bv k) (ov k + j) ∧ W.cell? ⟨bv k, ov k + j, none⟩ = some (.string ⟨(rt (F k j)).toArray⟩) := by
 generalize hd : rowsD n m F = ds at h
 cases h with
 | sl0 => omega
 | sl _ _ b off cap vs hl h1 hnn hc hr h =>
   subst hd
   rw [rowsD_len] at hl
   have key : ∀ k, ∃ (b1 o1 c1 : Nat), k < n → S b (off + k) ∧ W.cell? ⟨b, off + k, none⟩ = some (.slice (some ⟨b1, o1, none⟩) m c1) ∧ ∀ j, j < m → S b1 (o1 + j) ∧ W.cell? ⟨b1, o1 + j, none⟩ = some (.string ⟨(rt (F k j)).toArray⟩) := by
    intro k
    by_cases hk : k < n
    ·have hv : vs[k]? = some vs[k] := List.getElem?_eq_getElem (by omega)
     have hrk := h k _ _ (lst_at _ hk) hv
     have hck := hr k _ hv
     generalize vs[k] = v at *
     generalize hd : strs m (F k) = ds at hrk
     cases hrk with
     | sl0 => omega
     | sl _ _ b1 o1 c1 us hl1 _ _ _ hr1 h1 =>
       subst hd
       rw [strs_len] at hl1
       refine ⟨b1, o1, c1, fun _ => ⟨hck.1, hck.2, fun j hj => ?_⟩⟩
       have hu : us[j]? = some us[j] := List.getElem?_eq_getElem (by omega)
       have := (h1 j _ _ (lst_at _ hj) hu).str_inv.1
       rw [this] at hu
       exact hr1 j _ hu
    ·exact ⟨0, 0, 0, fun h => absurd h hk⟩
   exact ⟨b, off, cap, fun k => (key k).choose, fun k => (key k).choose_spec.choose, fun k => (key k).choose_spec.choose_spec.choose, rfl, hnn, fun k hk => (key k).choose_spec.choose_spec.choose_spec hk⟩
theorem str_cells {S : Nat → Nat → Prop} {W : World} {m : Nat} {r : Nat → Rat} {v : Value} (h : Rep S W (rowD m r) v) (hm : 0 < m) :
  ∃ (b o cap : Nat), v = .slice (some ⟨b, o, none⟩) m cap ∧ ∀ j, j < m → S b (o + j) ∧ W.cell? ⟨b, o + j, none⟩ = some (.string ⟨(rt (r j)).toArray⟩) := by
 generalize hd : strs m r = ds at h
 cases h with
 | sl0 => omega
 | sl _ _ b1 o1 c1 us hl1 _ _ _ hr1 h1 =>
   subst hd
   rw [strs_len] at hl1
   refine ⟨b1, o1, c1, rfl, fun j hj => ?_⟩
   have hu : us[j]? = some us[j] := List.getElem?_eq_getElem (by omega)
   have := (h1 j _ _ (lst_at _ hj) hu).str_inv.1
   rw [this] at hu
   exact hr1 j _ hu
theorem nat_cells {S : Nat → Nat → Prop} {W : World} {l : List Nat} {v : Value} (h : Rep S W (.sl l.length (l.map fun x : Nat => .int .i64 x)) v) :
  ∃ (b o cap : Nat) (ad : Option Addr), v = .slice ad l.length cap ∧ (0 < l.length → ad = some ⟨b, o, none⟩) ∧ ∀ t, t < l.length → S b (o + t) ∧ W.cell? ⟨b, o + t, none⟩ = some (.int .i64 ((l.getD t 0 : Nat) : Int)) := by
 generalize hd : (l.map fun x : Nat => D.int .i64 x) = ds at h
 generalize hk : l.length = k at h
 cases h with
 | sl0 a cap hc => exact ⟨0, 0, cap, a, rfl, fun h => absurd h (by omega), fun t ht => absurd ht (by omega)⟩
 | slN => exact ⟨0, 0, 0, none, rfl, fun h => absurd h (by omega), fun t ht => absurd ht (by omega)⟩
 | sl _ _ b1 o1 c1 us hl1 _ _ _ hr1 h1 =>
   subst hd
   rw [List.length_map] at hl1
   refine ⟨b1, o1, c1, some ⟨b1, o1, none⟩, rfl, fun _ => rfl, fun t ht => ?_⟩
   have hu : us[t]? = some us[t] := List.getElem?_eq_getElem (by omega)
   have hd : (l.map fun x : Nat => D.int .i64 x)[t]? = some (.int .i64 ((l.getD t 0 : Nat) : Int)) := by
    rw [List.getElem?_map, List.getD_eq_getElem?_getD, List.getElem?_eq_getElem (by omega)]; rfl
   have := (h1 t _ _ hd hu).int_inv
   rw [this] at hu
   exact hr1 t _ hu
theorem OwnQ.rep {W : World} {S : Nat → Nat → Prop} {base eR eS n m : Nat} {v : Value} {B C : Nat → Nat} {f : Nat → Nat → List UInt8} (h : OwnQ W base eR eS v n m B C (fun i j => .string ⟨(f i j).toArray⟩)) (hne : eR ≠ eS) (hl : ∀ i, i < n → ∀ j, j < m → (f i j).length ≤ maxLen) (hS : ∀ b j, base ≤ b → b < W.heap.size → S b j) :
  Rep S W (.sl n (lst n fun i => .sl m (lst m fun j => .str (f i j)))) v := by
 rcases Nat.eq_zero_or_pos n with h0 | h0
 ·subst h0
  rcases h.1.2 with ⟨rfl, _⟩ | ⟨g, cap, cur, rfl, _, _, _, hc, _⟩
  ·exact .sl0 _ _ (Nat.zero_le _)
  ·exact .sl0 _ _ hc
 ·obtain ⟨g, cap, rfl, hM⟩ := h.whole h0 hne
  exact hM.rep hl hS
/-- a literal of one part -/
theorem rep_one {S : Nat → Nat → Prop} {W : World} {e : TypeId} {d : D} {v : Value} (h1 : d.one = true) (hv : v.oneCell' = true) (hS : S W.heap.size 0) (h : Rep S (W.alloc (.cells #[v] e)) d v) :
  Rep S (W.alloc (.cells #[v] e)) (.sl 1 [d]) (.slice (some ⟨W.heap.size, 0, none⟩) 1 1) := by
 refine .sl 1 _ _ 0 1 [v] rfl (by simpa using h1) (Nat.le_refl _) (by decide) (fun i u hu => ?_) (fun i d' u hd hu => ?_)
 ·match i with
  | 0 => cases hu; exact ⟨hS, by rw [Lib.cell_of_heap (heap_alloc_new W _)]; rfl⟩
  | i + 1 => simp at hu
 ·match i with
  | 0 => cases hd; cases hu; exact h
  | i + 1 => simp at hu

/-- numbers overwritten at places -/
def ovr (l : List Nat) (base v : Nat → Rat) : Nat → Rat := fun j => match posn l j with
 | some t => v t
 | none => base j
theorem posn_take {l : List Nat} (h : l.Pairwise (· < ·)) {t : Nat} (ht : t < l.length) (j : Nat) : posn (l.take (t + 1)) j = if j = l.getD t 0 then some t else posn (l.take t) j := by
 have e : l[t]? = some (l.getD t 0) := by rw [List.getD_eq_getElem?_getD, List.getElem?_eq_getElem ht]; rfl
 have hp : (l.take (t + 1)).Pairwise (· < ·) := h.sublist (List.take_sublist _ _)
 split
 ·rename_i hj
  subst hj
  exact posn_of hp (by rw [List.getElem?_take, if_pos (Nat.lt_succ_self t)]; exact e)
 ·rename_i hj
  cases hq : posn (l.take t) j with
  | some u =>
    have hu := posn_some hq
    rw [List.getElem?_take] at hu
    split at hu
    ·exact posn_of hp (by rw [List.getElem?_take, if_pos (by omega)]; exact hu)
    ·cases hu
  | none =>
    rw [posn_none] at hq ⊢
    intro hm
    obtain ⟨u, hu⟩ := List.getElem?_of_mem hm
    rw [List.getElem?_take] at hu
    split at hu
    ·by_cases eu : u = t
     ·subst eu; rw [e] at hu; cases hu; exact hj rfl
     ·exact hq (List.mem_of_getElem? (show (l.take t)[u]? = some j by rw [List.getElem?_take, if_pos (by omega)]; exact hu))
    ·cases hu
theorem ovr_step {l : List Nat} (h : l.Pairwise (· < ·)) {t : Nat} (ht : t < l.length) (base v : Nat → Rat) : (fun i => if i = l.getD t 0 then v t else ovr (l.take t) base v i) = ovr (l.take (t + 1)) base v := by
 funext i
 unfold ovr
 rw [posn_take h ht i]
 by_cases e : i = l.getD t 0
 ·rw [if_pos e, if_pos e]
 ·rw [if_neg e, if_neg e]
theorem solV_ovr (s : RSt) (m : Nat) : solV s m = ovr s.lead (fun _ => 0) (fun t => s.F t m) := rfl
theorem kerV_ovr (s : RSt) {c : Nat} (hc : c ∉ s.lead) : kerV s c = ovr s.lead (fun j => if j = c then 1 else 0) (fun t => -s.F t c) := by
 funext j
 unfold kerV ovr
 by_cases e : j = c
 ·subst e; rw [if_pos rfl, posn_none.2 hc]; simp
 ·rw [if_neg e]
  cases posn s.lead j <;> simp [e]
end Go.Proofs

/-
 MATRIX: Solve, in the plain walk. Own work.
-/
namespace Go.Proofs
open Go Go.Pi Go.RowKit Go.Shelf Go.Ar Go.Mx

/-- the rows below the leading ones have 0 on the right -/
def okS (n m : Nat) (s : RSt) : Prop := ∀ i, s.lead.length ≤ i → i < n → s.F i m = 0
noncomputable def solD (n m : Nat) (s : RSt) : D := @ite D (okS n m s) (Classical.propDecidable _) (.tup [rowD m (solV s m), .int .i64 (if s.lead.length < m then 2 else 1), .int .i64 0]) (.tup [.sl 0 [], .int .i64 3, .int .i64 0])
theorem rep_tup3 {S : Nat → Nat → Prop} {w : World} {d1 d2 : D} {l : List UInt8} {v : Value} (h : Rep S w (.tup [d1, d2, .str l]) v) : ∃ x y, v = .tuple #[x, y, .string ⟨l.toArray⟩] ∧ Rep S w d1 x ∧ Rep S w d2 y := by
 cases h with
 | tup _ vs hl h =>
   match vs, hl, h with
   | [x, y, z], _, h => exact ⟨x, y, by rw [(h 2 _ _ rfl rfl).str_inv.1], h 0 _ _ rfl rfl, h 1 _ _ rfl rfl⟩
set_option maxRecDepth 100000 in
set_option maxHeartbeats 8000000 in
theorem Tryz.msolveW (n m : Nat) (F : Mtx) (y : Nat → Rat) (hn1 : 0 < n) (hn : n ≤ 12) (hm : m ≤ 12) (hr : Rts n m F) (hy : Rt n y) (hb : Bnd n (m + 1) m (wideM m F fun i _ => y i)) (hs : okS n m (redM n (wideM m F fun i _ => y i) m) → Rt m (solV (redM n (wideM m F fun i _ => y i) m) m)) :
  Con Tryz.prog Tryz.L 64 [matD n m F, rowD n y] (solD n m (redM n (wideM m F fun i _ => y i) m)) := by
 have mixed : Tryz.prog.follows .mixedOrders = true := by kernel_rfl
 have t0 := Tryz.underlying109; have a0 := Tryz.isAgg109; have z0 := Tryz.sizeOf109; have v0 := Tryz.zeroValue109; have u0 := run_underlying Tryz.underlying109
 have t1 := Tryz.underlying59; have a1 := Tryz.isAgg59; have z1 := Tryz.sizeOf59; have v1 := Tryz.zeroValue59; have u1 := run_underlying Tryz.underlying59
 have t2 := Tryz.underlying28; have a2 := Tryz.isAgg28; have z2 := Tryz.sizeOf28; have v2 := Tryz.zeroValue28; have u2 := run_underlying Tryz.underlying28
 have t3 := Tryz.underlying4; have a3 := Tryz.isAgg4; have z3 := Tryz.sizeOf4; have v3 := Tryz.zeroValue4; have u3 := run_underlying Tryz.underlying4
 have t4 := Tryz.underlying3; have a4 := Tryz.isAgg3; have z4 := Tryz.sizeOf3; have v4 := Tryz.zeroValue3; have u4 := run_underlying Tryz.underlying3
 have t5 := Tryz.underlying153; have a5 := Tryz.isAgg153; have z5 := Tryz.sizeOf153; have v5 := Tryz.zeroValue153; have u5 := run_underlying Tryz.underlying153
 have t6 := Tryz.underlying32; have a6 := Tryz.isAgg32; have z6 := Tryz.sizeOf32; have v6 := Tryz.zeroValue32; have u6 := run_underlying Tryz.underlying32
 have t7 := Tryz.underlying108; have a7 := Tryz.isAgg108; have z7 := Tryz.sizeOf108; have v7 := Tryz.zeroValue108; have u7 := run_underlying Tryz.underlying108
 obtain ⟨ir, hir, hirr⟩ := Option.map_eq_some_iff.1 Tryz.infoRow
 simp only [Prod.mk.injEq] at hirr
 have hle := lead_len (n := n) (w := m) (wideM m F fun i _ => y i)
 have hlw := lead_w (n := n) (w := m) (wideM m F fun i _ => y i)
 have hgd := good_red n (wideM m F fun i _ => y i) m
 refine ⟨⟨by kernel_rfl, by unfold solD; split <;> rfl⟩, fun S W vs hS hL hrep => ?_⟩
 obtain ⟨vm, r1, rfl, hrm, t1'⟩ := hrep.uncons
 obtain ⟨vr, r2, rfl, hrr, t2'⟩ := t1'.uncons
 obtain rfl : r2 = [] := List.length_eq_zero_iff.1 t2'.1.symm
 clear t1' t2' hrep
 obtain ⟨br, or, cr, rfl, hrow⟩ := str_cells hrr hn1
 obtain ⟨am, cm, rfl⟩ : ∃ a cap, vm = .slice a n cap := by
  generalize hd : rowsD n m F = ds at hrm
  cases hrm <;> exact ⟨_, _, rfl⟩
 have hck := (Tryz.mcheck n m F hn hm hr).2 S W [.slice am n cm] hS hL (Reps.cons hrm .nil)
 have hli := fun (W1 : World) (hb1 : Below W.heap.size W W1) => (Tryz.mlist0 n y (by omega) hy).2 S W1 [.slice (some ⟨br, or, none⟩) n cr, .int .i64 n] (fun b j h => Nat.lt_of_lt_of_le (hS b j h) hb1.size) (Tryz.hL W W1 hL hb1) (Reps.cons (hrr.mono (fun _ _ z => z) (fun b o z => hb1.cell (p := ⟨b, o, none⟩) (hS b o z))) (Reps.cons (.int _ _) .nil))
 have hco := fun (W1 : World) (hb1 : Below W.heap.size W W1) => (Tryz.mcolumns n m F (by omega) (by omega)).2 S W1 [.slice am n cm] (fun b j h => Nat.lt_of_lt_of_le (hS b j h) hb1.size) (Tryz.hL W W1 hL hb1) (Reps.cons (hrm.mono (fun _ _ z => z) (fun b o z => hb1.cell (p := ⟨b, o, none⟩) (hS b o z))) .nil)
 have hbe := fun (S1 : Nat → Nat → Prop) (W1 : World) (v : Value) (h1 : ∀ b j, S1 b j → b < W1.heap.size) (hb1 : Below W.heap.size W W1) (h2 : ∀ b j, S b j → S1 b j) (h3 : Rep S1 W1 (matD n 1 fun i _ => y i) v) => (Con.flat (Tryz.mbeside n m 1 F (fun i _ => y i) (by omega) (by omega) (by decide))).2 S1 W1 [.slice am n cm, v] h1 (Tryz.hL W W1 hL hb1) (Reps.cons (hrm.mono h2 (fun b o z => hb1.cell (p := ⟨b, o, none⟩) (hS b o z))) (Reps.cons h3 .nil))
 have hre := fun (S1 : Nat → Nat → Prop) (W1 : World) (v : Value) (h1 : ∀ b j, S1 b j → b < W1.heap.size) (hb1 : Below W.heap.size W W1) (h3 : Rep S1 W1 (matD n (m + 1) (wideM m F fun i _ => y i)) v) => (Tryz.mred n (m + 1) m (wideM m F fun i _ => y i) hn (by omega) (by omega) (by omega) hb).2 S1 W1 [v, .int .i64 m] h1 (Tryz.hL W W1 hL hb1) (Reps.cons h3 (Reps.cons (.int _ _) .nil))
 have HR : Hid (∀ k, k < n → br < W.heap.size ∧ W.cell? ⟨br, or + k, none⟩ = some (.string ⟨(rt (y k)).toArray⟩)) := fun k hk => ⟨hS _ _ (hrow k hk).1, (hrow k hk).2⟩
 have HY : Hid (∀ k, k < n → (rt (y k)).length ≤ maxLen) := fun k hk => by have := rt_len (y k); have := hy k hk; unfold maxLen; omega
 have HSS : Hid (∀ b j, S b j → b < W.heap.size) := hS
 generalize redM n (wideM m F fun i _ => y i) m = s at *
 clear hrow hrm hrr hr hy hb hS
 show Calls _ _ #[.slice am n cm, .slice (some ⟨br, or, none⟩) n cr] _ _
 go_enter Tryz.func64, Tryz.ntmps64
 go_wp2_with (first
  | (go_at_call 100; refine Calls.mono hck ?_; rintro e W1 ⟨v1, rfl, hb1, hr1⟩; obtain rfl : v1 = .int .i64 0 := (by cases hr1; rfl); clear hr1 hck)
  | (go_at_call 101; refine Calls.mono (hli _ hb1) ?_; rintro e W2 ⟨v2, rfl, hb2, hr2⟩; obtain rfl : v2 = .int .i64 0 := (by cases hr2; rfl); clear hr2 hli))
 have hb3 := hb1.trans (hb2.mono hb1.size)
 clear hb1 hb2
 go_loopg [35, 9] n (fun gg s35 s9 wr => ∃ (k : Nat) (B C : Nat → Nat), s35 = .int .i64 k ∧ k ≤ n ∧ n ≤ gg + k ∧ OwnQ wr W.heap.size 59 28 s9 k 1 B C (fun i _ => .string ⟨(rt (y i)).toArray⟩) ∧ Below W.heap.size W wr)
 case atStart => exact ⟨0, fun _ => 0, fun _ => 0, rfl, by omega, by omega, ⟨World.ownsRow_nil _ _ _ _, fun _ h => absurd h (by omega), fun _ _ h => absurd h (by omega)⟩, hb3⟩
 case round =>
  obtain ⟨k, B, C, rfl, hk, hgk, hq, hbw⟩ := hrel
  by_cases hlt : k < n
  ·have ck := (hbw.cell (p := ⟨br, or + k, none⟩) (HR.out k hlt).1).trans (HR.out k hlt).2
   have hkz : (k : Int) < (n : Int) := by omega
   have hk0 : (0 : Int) ≤ (k : Int) := Int.natCast_nonneg _
   have hbs := hbw.size
   obtain ⟨q1, q2, q3⟩ := hq
   have HQ : Hid ((∀ i, i < k → wr.ownsRow W.heap.size 28 1 (.slice (some ⟨B i, 0, none⟩) 1 (C i)) 1 (lst 1 fun _ => .string ⟨(rt (y i)).toArray⟩)) ∧ (∀ i j, i < k → j < k → B i = B j → i = j)) := ⟨q2, q3⟩
   have ho1 : (wr.alloc (.cells #[.string ⟨(rt (y k)).toArray⟩] 28)).ownsRow wr.heap.size 28 1 (.slice (some ⟨wr.heap.size, 0, none⟩) 1 1) 1 (lst 1 fun _ => .string ⟨(rt (y k)).toArray⟩) := ⟨rfl, .inr ⟨wr.heap.size, 1, #[.string ⟨(rt (y k)).toArray⟩], rfl, Nat.le_refl _, heap_alloc_new wr _, Nat.le_refl _, by decide, rfl, rfl⟩⟩
   have hba : Below wr.heap.size wr (wr.alloc (.cells #[.string ⟨(rt (y k)).toArray⟩] 28)) := (Below.refl wr.heap.size wr).alloc (Nat.le_refl _) _
   have q11 := q1.kept (gr_below (r := none) hba) (Classical.em _)
   clear q2 q3
   go_wp2_with (first
    | (at_builtin; refine wpList_append_own _ rfl _ _ 109 rfl W.heap.size 59 ir (.slice none 0 0) 1 24 Tryz.underlying109 hir hirr.1 hirr.2.1 hirr.2.2 rfl (by decide) _ k _ rfl (q11.alloc _) ⟨wr.heap.size + 1, 0, none⟩ 1 1 [.slice (some ⟨wr.heap.size, 0, none⟩) 1 1] rfl rfl (World.news_of_block (by have := heap_alloc_new (wr.alloc (.cells #[.string ⟨(rt (y k)).toArray⟩] 28)) (.cells #[.slice (some ⟨wr.heap.size, 0, none⟩) 1 1] 59); rwa [show (wr.alloc (.cells #[.string ⟨(rt (y k)).toArray⟩] 28)).heap.size = wr.heap.size + 1 by simp] at this)) (by simp [Value.oneCell']) (by unfold maxLen; omega) (by omega) (by simp; omega) ?_; intro v5 w5 ho5 hg5 hn5))
   have hbl : Below W.heap.size W w5 := ((hbw.trans (hba.mono hbw.size)).alloc (by have := hba.size; omega) _).grown hg5 (by have := hba.size; simp; omega) (fun k hk => (q1.lt k hk).1)
   have hpush := OwnQ.push (X := fun i _ => .string ⟨(rt (y i)).toArray⟩) ⟨q1, HQ.out.1, HQ.out.2⟩ (by decide) hbw.size hba ho1 ho5 hg5
   go_roundg (n - (k + 1))
   case measure => omega
   case rel =>
    refine ⟨k + 1, fun i => if i = k then wr.heap.size else B i, fun i => if i = k then 1 else C i, by go_num, by omega, by omega, ?_, hbl⟩
    have e : (fun i => if i = k then (fun _ => Value.string ⟨(rt (y k)).toArray⟩) else fun _ => Value.string ⟨(rt (y i)).toArray⟩) = fun i (_ : Nat) => Value.string ⟨(rt (y i)).toArray⟩ := by
     funext i
     split
     ·rename_i e; rw [e]
     ·rfl
    rw [e] at hpush
    exact hpush
  ·have hkz : ¬(k : Int) < (n : Int) := by omega
   obtain rfl : n = k := by omega
   obtain ⟨g, cap, rfl, hM⟩ := hq.whole hn1 (by decide)
   clear hq hkz hk hgk hb3
   obtain ⟨wb, hwb⟩ : ∃ wb, wb = wr := ⟨wr, rfl⟩
   subst hwb
   have hrz : (s.lead.length : Int) ≤ (n : Int) := by omega
   have hr0 : (0 : Int) ≤ (s.lead.length : Int) := Int.natCast_nonneg _
   have hmo := fun (W1 : World) (h1 : Below wb.heap.size wb W1) => OwnM.rep (S := fun b j => S b j ∨ (W.heap.size ≤ b ∧ b < W1.heap.size)) (f := fun i _ => rt (y i)) (hM.below h1) (fun i hi j _ => HY.out i hi) (fun b j x1 x2 => .inr ⟨x1, x2⟩)
   go_wp2_with (first
    | (go_at_call 102; refine Calls.mono (hco _ hbw) ?_; rintro e W3 ⟨v3, rfl, hb3, hr3⟩; obtain rfl : v3 = .int .i64 m := (by cases hr3; rfl); clear hr3 hco; have hb4 := hbw.trans (hb3.mono hbw.size); have hr4 := hmo W3 hb3)
    | (go_at_call 104; refine Calls.mono (hbe _ W3 _ (fun b j h => h.elim (fun h => Nat.lt_of_lt_of_le (HSS.out b j h) hb4.size) (fun h => h.2)) hb4 (fun _ _ h => .inl h) hr4) ?_; rintro e W5 ⟨v5, rfl, hb5, hr5⟩; have hb6 := hb4.trans (hb5.mono hb4.size); clear hbe hmo hr4)
    | (go_at_call 103; refine Calls.mono (hre _ W5 _ (fun b j h => h.elim (fun h => h.elim (fun h => Nat.lt_of_lt_of_le (HSS.out b j h) hb6.size) (fun h => Nat.lt_of_lt_of_le h.2 hb5.size)) (fun h => h.2)) hb6 hr5) ?_; rintro e W7 ⟨v7, rfl, hb7, hr7⟩; obtain ⟨x1, x2, rfl, hf7, hg7⟩ := rep_tup3 hr7; obtain ⟨bf, of, cf, bv, ov, cv, rfl, hfc, hF⟩ := mat_cells hf7 hn1 (Nat.succ_pos m); obtain ⟨bl, ol, cl, al, rfl, hal, hG⟩ := nat_cells hg7; have hfcz : (n : Int) ≤ (cf : Int) := (by omega); clear hre hr5 hr7 hf7 hg7))
   all_goals
    have hall : ∀ (b j : Nat), (((S b j ∨ W.heap.size ≤ b ∧ b < W3.heap.size) ∨ W3.heap.size ≤ b ∧ b < W5.heap.size) ∨ W5.heap.size ≤ b ∧ b < W7.heap.size) → b < W7.heap.size := fun b j h => by
     have a1 := hb6.size; have a2 := hb7.size; have a3 := hb5.size
     rcases h with ((h | h) | h) | h
     ·have := HSS.out b j h; omega
     ·omega
     ·omega
     ·omega
    have HF7 : Hid (∀ k, k < n → bf < W7.heap.size ∧ W7.cell? ⟨bf, of + k, none⟩ = some (.slice (some ⟨bv k, ov k, none⟩) (m + 1) (cv k)) ∧ ∀ j, j < m + 1 → bv k < W7.heap.size ∧ W7.cell? ⟨bv k, ov k + j, none⟩ = some (.string ⟨(rt (s.F k j)).toArray⟩)) := fun k hk => ⟨hall _ _ (hF k hk).1, (hF k hk).2.1, fun j hj => ⟨hall _ _ ((hF k hk).2.2 j hj).1, ((hF k hk).2.2 j hj).2⟩⟩
    have HG7 : Hid (∀ t, t < s.lead.length → bl < W7.heap.size ∧ W7.cell? ⟨bl, ol + t, none⟩ = some (.int .i64 ((s.lead.getD t 0 : Nat) : Int))) := fun t ht => ⟨hall _ _ (hG t ht).1, (hG t ht).2⟩
    have hb8 := hb6.trans (hb7.mono hb6.size)
    clear hall hF hG hM hb3 hb4 hb5 hb6 hb7 hbw
    have hm1 : (m : Int) < ((m + 1 : Nat) : Int) := by omega
    have hm2 : (m : Int) < (m : Int) + 1 := by omega
    have hm0 : (0 : Int) ≤ (m : Int) := Int.natCast_nonneg _
    go_loopg [61] (n - s.lead.length) (fun gg s61 wq => ∃ k : Nat, s61 = .int .i64 k ∧ k ≤ n - s.lead.length ∧ n - s.lead.length ≤ gg + k ∧ Hid (∀ i, s.lead.length ≤ i → i < s.lead.length + k → s.F i m = 0) ∧ wq = W7)
    case atStart => exact ⟨0, rfl, by omega, by omega, fun i h1 h2 => absurd h1 (by omega), rfl⟩
    case round =>
     obtain ⟨k, rfl, hk, hgk, HZ, rfl⟩ := hrel
     by_cases hlt2 : k < n - s.lead.length
     ·first
      | (exfalso; omega)
      | (have cc := (HF7.out (s.lead.length + k) (by omega)).2.1
         rw [← Nat.add_assoc] at cc
         have cm2 := ((HF7.out (s.lead.length + k) (by omega)).2.2 m (by omega)).2
         have hkz : (k : Int) < ((n - s.lead.length : Nat) : Int) := by omega
         have hk0 : (0 : Int) ≤ (k : Int) := Int.natCast_nonneg _
         by_cases hz : s.F (s.lead.length + k) m = 0
         ·rw [rt_zero.2 hz] at cm2
          have HZ2 : Hid (s.F (s.lead.length + k) m = 0) := hz
          clear hz
          go_wp2
          go_roundg (n - s.lead.length - (k + 1))
          case measure => omega
          case rel =>
           refine ⟨k + 1, by go_num, by omega, by omega, fun i h1 h2 => ?_, rfl⟩
           by_cases e : i = s.lead.length + k
           ·rw [e]; exact HZ2.out
           ·exact HZ.out i h1 (by omega)
         ·have hzb : (rt (s.F (s.lead.length + k) m) == [48]) = false := by rw [Bool.eq_false_iff]; simp [rt_zero, hz]
          have hno : ¬okS n m s := fun h => hz (h _ (by omega) (by omega))
          have HD : Hid (solD n m s = .tup [.sl 0 [], .int .i64 3, .int .i64 0]) := by show _ = _; unfold solD; rw [if_neg hno]
          clear hz
          go_wp2
          go_ret3
          refine ⟨_, rfl, hb8, ?_⟩
          rw [HD.out]
          refine .tup _ [_, _, _] rfl ?_
          intro i d u hd hu
          match i with
          | 0 => cases hd; cases hu; exact .sl0 _ _ (by decide)
          | 1 => cases hd; cases hu; exact .int _ _
          | 2 => cases hd; cases hu; exact .int _ _
          | k + 3 => simp at hd)
     ·have hkz : ¬(k : Int) < ((n - s.lead.length : Nat) : Int) := by omega
      have hok : okS n m s := fun i h1 h2 => HZ.out i h1 (by omega)
      have HD : Hid (solD n m s = .tup [rowD m (solV s m), .int .i64 (if s.lead.length < m then 2 else 1), .int .i64 0]) := by show _ = _; unfold solD; rw [if_pos hok]
      have hsl := hs hok
      clear hs HZ hok
      have hrp := (Tryz.mzeros m (by omega)).2 (fun b _ => b < (wr.alloc (.cells #[.string ⟨#[48]⟩] 28)).heap.size) (wr.alloc (.cells #[.string ⟨#[48]⟩] 28)) [.slice (some ⟨wr.heap.size, 0, none⟩) 1 1, .int .i64 m] (fun _ _ h => h) (Tryz.hL W _ hL (hb8.alloc hb8.size _)) (Reps.cons (rep_one rfl rfl (by show _ < _; simp) (.str [48] (by decide))) (Reps.cons (.int _ _) .nil))
      obtain ⟨wb2, hwb2⟩ : ∃ wb2, wb2 = wr := ⟨wr, rfl⟩
      subst hwb2
      go_wp2_with (first
       | (go_at_call 105; refine Calls.mono hrp ?_; rintro e W8 ⟨v8, rfl, hb9, hr8⟩; have ho8 := own_of_res1 (f := fun _ => rt 0) (by kernel_rfl) hr8; obtain ⟨a8, b8, c8, rfl, ha8⟩ : ∃ (a8 : Option Addr) (b8 c8 : Nat), v8 = .slice a8 m c8 ∧ (0 < m → a8 = some ⟨b8, 0, none⟩) := (by rcases ho8.2 with ⟨h1, h2⟩ | ⟨b, c, cur, h1, _⟩; exact ⟨none, 0, 0, by rw [h1, h2], fun h => absurd h (by omega)⟩; exact ⟨_, b, c, h1, fun _ => rfl⟩); clear hr8 hrp))
      have hb10 : Below wb2.heap.size wb2 W8 := ((Below.refl wb2.heap.size wb2).alloc (Nat.le_refl _) _).trans (hb9.mono (by simp))
      have ho9 := own_base ho8 (show wb2.heap.size ≤ _ by simp)
      clear ho8 hb9
      go_loopg [76] s.lead.length (fun gg s76 wq => ∃ t : Nat, s76 = .int .i64 t ∧ t ≤ s.lead.length ∧ s.lead.length ≤ gg + t ∧ wq.ownsRow wb2.heap.size 28 1 (.slice a8 m c8) m (lst m fun j => .string ⟨(rt (ovr (s.lead.take t) (fun _ => 0) (fun t => s.F t m) j)).toArray⟩) ∧ Below wb2.heap.size wb2 wq)
      case atStart => exact ⟨0, rfl, by omega, by omega, ho9, hb10⟩
      case round =>
       clear ho9 hb10
       obtain ⟨t, rfl, ht, hgt, ho, hbq⟩ := hrel
       by_cases hlt3 : t < s.lead.length
       ·have htz : (t : Int) < (s.lead.length : Int) := by omega
        have htz0 : (0 : Int) ≤ (t : Int) := Int.natCast_nonneg _
        have htn : (t : Int) < (n : Int) := by omega
        have ha := hal (by omega)
        subst ha
        have ha := ha8 (by omega)
        subst ha
        have hld : s.lead.getD t 0 < m := hgd.lt _ (by rw [List.getD_eq_getElem?_getD, List.getElem?_eq_getElem hlt3]; exact List.getElem_mem hlt3)
        have c1 := (hbq.cell (p := ⟨bl, ol + t, none⟩) (HG7.out t hlt3).1).trans (HG7.out t hlt3).2
        have c2 := (hbq.cell (p := ⟨bf, of + t, none⟩) (HF7.out t (by omega)).1).trans (HF7.out t (by omega)).2.1
        have c3 := (hbq.cell (p := ⟨bv t, ov t + m, none⟩) ((HF7.out t (by omega)).2.2 m (by omega)).1).trans ((HF7.out t (by omega)).2.2 m (by omega)).2
        have HST : Hid (ovr (s.lead.take (t + 1)) (fun _ => 0) (fun t => s.F t m) = fun i => if i = s.lead.getD t 0 then s.F t m else ovr (s.lead.take t) (fun _ => 0) (fun t => s.F t m) i) := (ovr_step hgd.inc hlt3 _ _).symm
        generalize s.lead.getD t 0 = q at *
        have hqz : (q : Int) < (m : Int) := by omega
        have hq0 : (0 : Int) ≤ (q : Int) := Int.natCast_nonneg _
        have c4 := ho.cellAt q (by omega)
        rw [lst_at _ hld] at c4
        have f4 := ho.frozenAt q
        obtain ⟨hs1, hs2⟩ := ho.stored q (.string ⟨(rt (s.F t m)).toArray⟩)
        have HO : Hid ((wr.setCell ⟨b8, q, none⟩ (.string ⟨(rt (s.F t m)).toArray⟩)).ownsRow wb2.heap.size 28 1 (.slice (some ⟨b8, 0, none⟩) m c8) m (lst m fun j => .string ⟨(rt (ovr (s.lead.take (t + 1)) (fun _ => 0) (fun t => s.F t m) j)).toArray⟩)) := by
         rw [lst_set] at hs1
         rw [HST.out]
         rw [show (lst m fun j => Value.string ⟨(rt (if j = q then s.F t m else ovr (s.lead.take t) (fun _ => 0) (fun t => s.F t m) j)).toArray⟩) = lst m fun j => if j = q then Value.string ⟨(rt (s.F t m)).toArray⟩ else Value.string ⟨(rt (ovr (s.lead.take t) (fun _ => 0) (fun t => s.F t m) j)).toArray⟩ from lst_congr fun j _ => by by_cases e : j = q <;> simp [e]]
         exact hs1
        have HB : Hid (Below wb2.heap.size wb2 (wr.setCell ⟨b8, q, none⟩ (.string ⟨(rt (s.F t m)).toArray⟩))) := hbq.setCell (ho.lt b8 rfl).1 _
        clear hs1 hs2 ho hbq
        go_wp2
        go_roundg (s.lead.length - (t + 1))
        case measure => omega
        case rel => exact ⟨t + 1, by go_num, by omega, by omega, HO.out, HB.out⟩
       ·have htz : ¬(t : Int) < (s.lead.length : Int) := by omega
        obtain rfl : t = s.lead.length := by omega
        rw [List.take_length, ← solV_ovr s m] at ho
        have hbt := hb8.trans (hbq.mono hb8.size)
        have HLE : Hid (∀ i, i < m → (rt (solV s m i)).length ≤ maxLen) := fun i hi => by have := rt_len (solV s m i); have := hsl i hi; unfold maxLen; omega
        have hsh := (Tryz.mshort 1 m (fun _ => solV s m) (by decide) (by omega) (fun _ _ => hsl)).2 (fun b _ => b < (wr.alloc (.cells #[.slice a8 m c8] 59)).heap.size) (wr.alloc (.cells #[.slice a8 m c8] 59)) [.slice (some ⟨wr.heap.size, 0, none⟩) 1 1] (fun _ _ h => h) (Tryz.hL W _ hL (hbt.alloc hbt.size _)) (Reps.cons (rep_one (d := rowD m (solV s m)) rfl rfl (by show _ < _; simp) (rep_strs (f := fun i => rt (solV s m i)) (ho.alloc _) HLE.out (fun b j h1 h2 => h2))) .nil)
        by_cases hlm : s.lead.length < m
        ·have hlmz : (s.lead.length : Int) < (m : Int) := by omega
         go_wp2_with (first
          | (go_at_call 106; refine Calls.mono hsh ?_; rintro e W9 ⟨v9, rfl, hb9, hr9⟩; obtain rfl : v9 = .int .i64 0 := (by cases hr9; rfl); clear hr9 hsh))
         go_ret3
         have hbz := (hbt.alloc hbt.size (.cells #[.slice a8 m c8] 59)).trans (hb9.mono (by have := hbt.size; simp; omega))
         refine ⟨_, rfl, hbz, ?_⟩
         have hv := rep_strs (S := fun b j => S b j ∨ (W.heap.size ≤ b ∧ b < W9.heap.size)) (f := fun i => rt (solV s m i)) ((ho.alloc (.cells #[.slice a8 m c8] 59)).kept (gr_below (r := none) hb9) (Classical.em _)) HLE.out (fun b j h1 h2 => .inr ⟨Nat.le_trans hb8.size h1, h2⟩)
         rw [HD.out, if_pos hlm]
         refine .tup _ [_, _, _] rfl ?_
         intro i d u hd hu
         match i with
         | 0 => cases hd; cases hu; exact hv
         | 1 => cases hd; cases hu; exact .int _ _
         | 2 => cases hd; cases hu; exact .int _ _
         | k + 3 => simp at hd
        ·have hlmz : ¬(s.lead.length : Int) < (m : Int) := by omega
         go_wp2_with (first
          | (go_at_call 106; refine Calls.mono hsh ?_; rintro e W9 ⟨v9, rfl, hb9, hr9⟩; obtain rfl : v9 = .int .i64 0 := (by cases hr9; rfl); clear hr9 hsh))
         go_ret3
         have hbz := (hbt.alloc hbt.size (.cells #[.slice a8 m c8] 59)).trans (hb9.mono (by have := hbt.size; simp; omega))
         refine ⟨_, rfl, hbz, ?_⟩
         have hv := rep_strs (S := fun b j => S b j ∨ (W.heap.size ≤ b ∧ b < W9.heap.size)) (f := fun i => rt (solV s m i)) ((ho.alloc (.cells #[.slice a8 m c8] 59)).kept (gr_below (r := none) hb9) (Classical.em _)) HLE.out (fun b j h1 h2 => .inr ⟨Nat.le_trans hb8.size h1, h2⟩)
         rw [HD.out, if_neg hlm]
         refine .tup _ [_, _, _] rfl ?_
         intro i d u hd hu
         match i with
         | 0 => cases hd; cases hu; exact hv
         | 1 => cases hd; cases hu; exact .int _ _
         | 2 => cases hd; cases hu; exact .int _ _
         | k + 3 => simp at hd
end Go.Proofs

/-
 MATRIX: Inverse, Kernel; Solve of nothing, and its errors. Own work.
-/
namespace Go.Proofs
open Go Go.Pi Go.RowKit Go.Shelf Go.Ar Go.Mx

/-! Solve -/
theorem freeC_succ (l : List Nat) (c : Nat) : freeC l (c + 1) = freeC l c ++ if c ∈ l then [] else [c] := by
 unfold freeC
 rw [List.range_succ, List.filter_append]
 congr 1
 by_cases h : c ∈ l <;> simp [h]
/-- the lists of the kernel as data -/
def kerD (m : Nat) (s : RSt) (c : Nat) : List D := (freeC s.lead c).map fun d => rowD m (kerV s d)
/-- and as a matrix -/
def kerM (s : RSt) (m : Nat) : Mtx := fun i => kerV s ((freeC s.lead m).getD i 0)
theorem kerD_mat (m : Nat) (s : RSt) : kerD m s m = rowsD (freeC s.lead m).length m (kerM s m) := by
 unfold kerD
 apply List.ext_getElem?
 intro i
 rw [List.getElem?_map]
 by_cases h : i < (freeC s.lead m).length
 ·rw [show (rowsD (freeC s.lead m).length m (kerM s m))[i]? = some (rowD m (kerM s m i)) from lst_at _ h, List.getElem?_eq_getElem h]
  unfold kerM
  rw [List.getD_eq_getElem?_getD, List.getElem?_eq_getElem h]; rfl
 ·rw [List.getElem?_eq_none (by omega), List.getElem?_eq_none (by rw [rowsD_len]; omega)]; rfl
theorem free_len (l : List Nat) (c : Nat) : (freeC l c).length ≤ c := by
 unfold freeC
 have := List.length_filter_le (fun c => !l.contains c) (List.range c)
 rwa [List.length_range] at this
theorem Tryz.mkernel (n m : Nat) (F : Mtx) (hn : n ≤ 12) (hm : m ≤ 12) (h0 : n = 0 → m = 0) (hr : Rts n m F) (hb : Bnd n m m F) (hs : Rts (freeC (redM n F m).lead m).length m (kerM (redM n F m) m)) :
  Con Tryz.prog Tryz.L 65 [matD n m F] (.tup [matD (freeC (redM n F m).lead m).length m (kerM (redM n F m) m), .int .i64 0]) := by
 have hle := lead_len (n := n) (w := m) F
 have hlw := lead_w (n := n) (w := m) F
 have hgd := good_red n F m
 have hF : ∀ i, i < n → ∀ j, j < m → rd ((redM n F m).F i j) ≤ 900 := (hb m (Nat.le_refl _)).1
 refine rule65 Tryz.hL rfl rfl rfl ?_
 (simp only [pc65, rs65, oU, oC]; refine ev ?_; try exact ⟨⟩)
 refine callF_of (Tryz.mcheck n m F hn hm hr) ?_
 (refine ev ?_; try exact ⟨⟩)
 refine callF_of (Tryz.mcolumns n m F (by omega) h0) ?_
 (refine ev ?_; try exact ⟨⟩)
 refine callF_of (Tryz.mred n m m F hn (by omega) (Nat.le_refl _) h0 hb) ?_
 (refine ev ?_; try exact ⟨⟩)
 generalize redM n F m = s at *
 refine loopF_of (fun E => ∃ c : Nat, c ≤ m ∧ E = [(5, .int .i64 m), (6, matD n m s.F), (7, .sl s.lead.length (s.lead.map fun c : Nat => .int .i64 c)), (9, .own true 59 (freeC s.lead c).length (kerD m s c)), (28, .int .i64 m), (29, .int .i64 c)])
  (fun E => match lk E 29 with | .int _ i => m - i.toNat | _ => 0) ⟨0, Nat.zero_le _, rfl⟩ ?_
 rintro _ ⟨c, hc, rfl⟩
 (refine ev ?_; try exact ⟨⟩)
 refine ⟨fun h3 => ?_, fun h3 => ?_⟩
 ·have hcn := Tryz.mcontains s.lead c (by omega)
  rw [show decide (c ∈ s.lead) = dB (c ∈ s.lead) by by_cases h : c ∈ s.lead <;> simp [h, dB]] at hcn
  refine callF_of hcn ?_
  (refine ev ?_; try exact ⟨⟩)
  refine ⟨fun h4 => ?_, fun h4 => ?_⟩
  ·exact ⟨by omega, ⟨c + 1, by omega, by simp [kerD, freeC_succ, h4], by simp⟩, by omega⟩
  ·refine callF_of (Tryz.mzeros m (by omega)) ?_
   (refine ev ?_; try exact ⟨⟩)
   rw [stG_str, strs_len, show ([49] : List UInt8) = rt 1 from (rt_one.2 rfl).symm, strs_set]
   refine ⟨⟨by omega, by omega⟩, by omega, ?_⟩
   (refine ev ?_; try exact ⟨⟩)
   refine loopF_of (fun E => ∃ t : Nat, t ≤ s.lead.length ∧ E = [(5, .int .i64 m), (6, matD n m s.F), (7, .sl s.lead.length (s.lead.map fun c : Nat => .int .i64 c)), (9, .own true 59 (freeC s.lead c).length (kerD m s c)), (10, .int .i64 c), (11, .own true 28 m (strs m (ovr (s.lead.take t) (fun j => if j = c then 1 else 0) (fun t => -s.F t c)))), (28, .int .i64 m), (29, .int .i64 c), (41, .sl s.lead.length (s.lead.map fun c : Nat => .int .i64 c)), (42, .int .i64 s.lead.length), (43, .int .i64 t)])
    (fun E => match lk E 43 with | .int _ i => s.lead.length - i.toNat | _ => 0) ⟨0, Nat.zero_le _, rfl⟩ ?_
   rintro _ ⟨t, ht, rfl⟩
   (refine ev ?_; try exact ⟨⟩)
   refine ⟨fun h5 => ?_, fun h5 => ?_⟩
   ·have ht2 : t < s.lead.length := by omega
    have hld : s.lead.getD t 0 < m := hgd.lt _ (by rw [List.getD_eq_getElem?_getD, List.getElem?_eq_getElem ht2]; exact List.getElem_mem ht2)
    refine ⟨⟨by omega, by omega, by rw [List.length_map]; omega⟩, ?_⟩
    rw [ldC_nats]
    refine ⟨ht2, ?_⟩
    simp only [evX, evY, evZ, forall_const, implies_true, initE, stepF, D.clean, mvF, moF, tkF, shF, ariF, ciF, catF, scF, ebF, eqF, eqOk, eqPr, enF, notF, ngF, cvF, csF, csbF, lenF, lenSF, ixF, iaF, PX.slot, iaAF, faF, ldF, D.mem, stF, bxF, mkSF, boundF, fldF, ixAF, mmF2, D.plain, D.isPure, optAll, D.dull, callVF, splice, D.cells, D.one, sets, resT, D.flat, D.flat0, D.simple, Nat.reduceBNe, Nat.reduceLT, reduceIte, Nat.reduceEqDiff, Nat.reduceAdd, Nat.reduceMul, Nat.reduceSub, Nat.reduceLeDiff, Int.reduceToNat, Int.reduceLT, Int.reduceLE, Int.reduceEq, Int.reduceNeg, Int.reduceSub, Int.reduceAdd, Int.reduceMul, stG_own, ldC_rowsD, ldC_strsM]
    refine ⟨⟨by omega, by omega, by rw [rowsD_len]; omega⟩, by omega, ⟨by omega, by omega, by rw [strs_len]; omega⟩, by omega, ?_⟩
    refine callF_of (Tryz.rneg (s.F t c) (by have := hF t (by omega) c (by omega); omega)) ?_
    have hst := ovr_step hgd.inc ht2 (fun j => if j = c then (1 : Rat) else 0) (fun t => -s.F t c)
    generalize s.lead.getD t 0 = q at *
    (refine ev ?_; try exact ⟨⟩)
    rw [stG_str, strs_len, strs_set, hst]
    refine ⟨⟨by omega, by omega, by omega⟩, by omega, ?_⟩
    (refine ev ?_; try exact ⟨⟩)
    exact ⟨by omega, ⟨t + 1, by omega, rfl, by simp⟩, by omega⟩
   ·obtain rfl : t = s.lead.length := by omega
    rw [List.take_length, ← kerV_ovr s h4]
    have e : kerD m s c ++ [rowD m (kerV s c)] = kerD m s (c + 1) := by simp [kerD, freeC_succ, h4]
    have e2 : (freeC s.lead (c + 1)).length = (freeC s.lead c).length + 1 := by simp [freeC_succ, h4]
    have := free_len s.lead c
    rw [e, ← e2]
    exact ⟨by omega, by omega, by omega, ⟨c + 1, by omega, rfl, by simp⟩, by omega⟩
 ·obtain rfl : c = m := by omega
  rw [kerD_mat]
  refine callF_of (Tryz.mresult _ c _ (by have := free_len s.lead c; omega) (by omega) hs) ?_
  (refine ev ?_; try exact ⟨⟩)
  rfl
end Go.Proofs

/-
 MATRIX: the reference: Columns, Dot, Turned, Product, Alike, Same; the law's units; sizes. Own work.
-/
namespace Go.Proofs
open Go Go.Pi Go.RowKit Go.Shelf Go.Ar Go.Mx

theorem bnd_of {k n m w : Nat} {F : Mtx} (h : RBs k n m F) (hw : w ≤ m) (hk : (k + 1) * 2 ^ w ≤ 898) : Bnd n m w F := fun q hq => by
 have hp : (k + 1) * 2 ^ q ≤ (k + 1) * 2 ^ w := Nat.mul_le_mul_left _ (Nat.pow_le_pow_right (by decide) hq)
 refine ⟨fun i hi j hj => ?_, ?_⟩
 ·have := rd_nb (((rbs_red h (w := q) (by omega)) i hi).nb hj)
  rw [Nat.max_self] at this
  omega
 ·have := rd_nb (nb_fac h (w := q) (by omega))
  rw [Nat.max_self] at this
  omega
end Go.Proofs

/-
 MATRIX: the examples of the chapter. Own work.
-/
namespace Go.Mx
end Go.Mx
namespace Go.Proofs
open Go Go.Pi Go.RowKit Go.Shelf Go.Ar Go.Mx

def exA : Mtx := fun i j => if i = 0 then (if j = 0 then 1 else 2) else (if j = 0 then 3 else 4)
def exB : Mtx := fun i j => if i = 0 then (if j = 0 then 2 else 1) else (if j = 0 then 1 else -1)
def exY : Nat → Rat := fun i => if i = 0 then 3 else 0
theorem two {i : Nat} (h : i < 2) : i = 0 ∨ i = 1 := by omega
theorem rts_of {k n m : Nat} {F : Mtx} (h : RBs k n m F) (hk : k ≤ 199) : Rts n m F := fun i hi j hj => by
 have := rd_nb ((h i hi).nb hj)
 rw [Nat.max_self] at this
 omega
end Go.Proofs

/-
 MATRIX: known() holds. Own work.
-/
namespace Go.Proofs
open Go Go.Pi Go.RowKit Go.Shelf Go.Ar Go.Mx

end Go.Proofs

/-
 MATRIX: described matrices. Own work.
-/
namespace Go.Proofs
open Go Go.Pi Go.RowKit Go.Shelf Go.Ar Go.Mx

structure Grd where
 r : Nat
 c : Nat
 h : Bool
 e : Nat → Int
/-- a description in its bounds -/
def Grd.ok (g : Grd) : Prop := g.r < 256 ∧ g.c < 256 ∧ ∀ k, k < 16 → -128 ≤ g.e k ∧ g.e k ≤ 127
def Grd.D (g : Grd) : List D := .int .u8 g.r :: .int .u8 g.c :: .bool g.h :: lst 16 fun k => .int .i8 (g.e k)
def Grd.n (g : Grd) : Nat := g.r % 5
def Grd.m (g : Grd) : Nat := if g.r % 5 = 0 then 0 else g.c % 5
def Grd.d (g : Grd) : Nat := if g.h then 2 else 1
def Grd.F (g : Grd) : Mtx := fun i k => mkRat ((g.e (4 * i + k)).tmod 20) g.d
theorem Grd.nm (g : Grd) : g.n = 0 → g.m = 0 := fun h => if_pos h
theorem Grd.n4 (g : Grd) : g.n ≤ 4 := by unfold Grd.n; omega
theorem Grd.m4 (g : Grd) : g.m ≤ 4 := by unfold Grd.m; split <;> omega
theorem tmod20 (z : Int) : -19 ≤ z.tmod 20 ∧ z.tmod 20 ≤ 19 := by
 have h1 := Int.tmod_lt_of_pos z (show (0 : Int) < 20 by decide)
 have h2 := Int.tmod_lt_of_pos (-z) (show (0 : Int) < 20 by decide)
 rw [Int.neg_tmod] at h2
 omega
theorem Grd.rb (g : Grd) : RBs 2 g.n g.m g.F := fun i _ => by
 refine ⟨2, by decide, by decide, fun k _ => ?_⟩
 have h := tmod20 (g.e (4 * i + k))
 unfold Grd.F Grd.d
 generalize (g.e (4 * i + k)).tmod 20 = z at *
 cases g.h
 ·refine ⟨2 * z, by omega, ?_⟩
  show mkRat z 1 * (2 : Nat) = _
  rw [mkRat_d1, Rat.intCast_mul]
  grind
 ·refine ⟨z, by omega, ?_⟩
  show mkRat z 2 * (2 : Nat) = _
  rw [Rat.mkRat_eq_div]
  have : ((2 : Nat) : Rat) ≠ 0 := by decide +kernel
  grind
theorem g19 (g : Grd) : g.D.length = 19 := by simp [Grd.D, lst_len]
theorem gone (g : Grd) : g.D.all D.one = true := by simp [Grd.D, lst, D.one]
end Go.Proofs

/-
 MATRIX: MatrixProducts. Own work.
-/
namespace Go.Proofs
open Go Go.Pi Go.RowKit Go.Shelf Go.Ar Go.Mx

theorem Grd.nb (g : Grd) : ∀ i, i < g.n → ∀ j, j < g.m → NB 2 2 (g.F i j) := fun i hi j hj => (g.rb i hi).nb hj
end Go.Proofs

/-
 MATRIX: texts of numbers; MatrixApplies. Own work.
-/
namespace Go.Proofs
open Go Go.Pi Go.RowKit Go.Shelf Go.Ar Go.Mx

theorem nb_rd {k : Nat} {q : Rat} (h : rd q ≤ k) : NB k k q := by
 have h1 : q.num.natAbs < 10 ^ (dd q.num.natAbs).length := dd_lt _
 have h2 : q.den < 10 ^ (dd q.den).length := dd_lt _
 have h3 : (dd q.num.natAbs).length ≤ k := Nat.le_trans (Nat.le_max_left _ _) h
 have h4 : (dd q.den).length ≤ k := Nat.le_trans (Nat.le_max_right _ _) h
 refine ⟨q.num, q.den, q.den_pos, Nat.le_trans (Nat.le_of_lt h2) (pow_mono h4), Nat.le_trans (Nat.le_of_lt h1) (pow_mono h3), ?_⟩
 have h5 : (q.num : Rat) / (q.den : Rat) = q := by rw [← Rat.mkRat_eq_div, Rat.mkRat_self]
 have h6 : (q.den : Rat) ≠ 0 := fun e => q.den_nz (by exact_mod_cast e)
 generalize (q.num : Rat) = a at *
 generalize (q.den : Rat) = b at *
 rw [← h5]; grind
end Go.Proofs

/-
 MATRIX: MatrixDeterminants. Own work.
-/
namespace Go.Proofs
open Go Go.Pi Go.RowKit Go.Shelf Go.Ar Go.Mx

/-- a description made square -/
def Grd.sq (g : Grd) : Grd := { g with c := g.r % 5 }
def Grd.sqAs (h : Grd) (g : Grd) : Grd := { h with r := g.r % 5, c := g.r % 5 }
end Go.Proofs

/-
 MATRIX: MatrixKernels. Own work.
-/
namespace Go.Proofs
open Go Go.Pi Go.RowKit Go.Shelf Go.Ar Go.Mx

/-- numbers of the kernel -/
theorem kerV_nb {k n m : Nat} {s : RSt} (h : RBs k n m s.F) (hg : GoodR n m s) {c : Nat} (hc : c < m) : ∀ j, NB k k (kerV s c j) := fun j => by
 unfold kerV
 split
 ·exact NB.oneM.mono (Nat.zero_le _) (Nat.zero_le _)
 ·cases hp : posn s.lead j with
  | none => exact NB.zero.mono (Nat.zero_le _) (Nat.zero_le _)
  | some t =>
    have ht : t < s.lead.length := (List.getElem?_eq_some_iff.1 (posn_some hp)).1
    exact ((h t (Nat.lt_of_lt_of_le ht hg.len)).nb hc).neg
theorem solV_nb {k n m : Nat} {s : RSt} (h : RBs k n (m + 1) s.F) (hl : s.lead.length ≤ n) : ∀ j, NB k k (solV s m j) := fun j => by
 unfold solV
 cases hp : posn s.lead j with
 | none => exact NB.zero.mono (Nat.zero_le _) (Nat.zero_le _)
 | some t =>
   have ht : t < s.lead.length := (List.getElem?_eq_some_iff.1 (posn_some hp)).1
   exact (h t (by omega)).nb (Nat.lt_succ_self m)
theorem free_mem {l : List Nat} {m i : Nat} (h : i < (freeC l m).length) : (freeC l m).getD i 0 < m ∧ (freeC l m).getD i 0 ∉ l := by
 have : (freeC l m).getD i 0 ∈ freeC l m := by rw [List.getD_eq_getElem?_getD, List.getElem?_eq_getElem h]; exact List.getElem_mem _
 exact mem_free.1 this
theorem kerM_nb {k n m : Nat} {s : RSt} (h : RBs k n m s.F) (hg : GoodR n m s) {i : Nat} (hi : i < (freeC s.lead m).length) : ∀ j, NB k k (kerM s m i j) := fun j => kerV_nb h hg (free_mem hi).1 j
theorem rd_of_nb {k : Nat} {q : Rat} (h : NB k k q) : rd q ≤ k + 1 := by
 have := rd_nb h
 rwa [Nat.max_self] at this
/-- four small integers -/
def X4 (x : Nat → Int) : List D := lst 4 fun k => .int .i8 (x k)
end Go.Proofs

/-
 AFFINE: the reference's small fractions (klipperef04). Own work.
-/
namespace Go.Proofs
open Go Go.Pi Go.RowKit Go.Shelf Go.Ar

/-- a small fraction -/
def fD (q : Rat) : D := .agg [.int .i64 q.num, .int .i64 q.den]
/-- a numerator and a denominator up to a bound -/
def FB (k l : Nat) (q : Rat) : Prop := q.num.natAbs ≤ k ∧ q.den ≤ l
theorem Tryz.fgcd (a b : Nat) (ha : a < 9223372036854775808) (hb : b < 9223372036854775808) : Con Tryz.prog Tryz.L 87 [.int .i64 a, .int .i64 b] (.int .i64 (Nat.gcd a b : Nat)) := by
 refine rule87 Tryz.hL rfl rfl rfl ?_
 (simp only [pc87, rs87, oU, oC]; refine ev ?_; try exact ⟨⟩)
 refine loopF_of (fun E => ∃ x y : Nat, x < 9223372036854775808 ∧ y < 9223372036854775808 ∧ Nat.gcd x y = Nat.gcd a b ∧ E = [(0, .int .i64 x), (1, .int .i64 y)])
  (fun E => match lk E 1 with | .int _ i => i.toNat | _ => 0) ⟨a, b, ha, hb, rfl, rfl⟩ ?_
 rintro _ ⟨x, y, hx, hy, hg, rfl⟩
 (refine ev ?_; try exact ⟨⟩)
 refine ⟨fun h => ?_, fun h => ?_⟩
 ·have e : (x : Int).tmod (y : Int) = ((x % y : Nat) : Int) := by rw [Int.tmod_eq_emod_of_nonneg (by omega)]; rfl
  have hl := Nat.mod_lt x (show 0 < y by omega)
  refine ⟨by omega, ⟨y, x % y, hy, by omega, ?_, by rw [e]; simp⟩, ?_⟩
  ·rw [← hg, Nat.gcd_comm x y, Nat.gcd_rec y x, Nat.gcd_comm]
  ·rw [e]; omega
 ·obtain rfl : y = 0 := by omega
  rw [← hg, Nat.gcd_zero_right]
/-- from any numerator and denominator -/
theorem fb_of {k l : Nat} {q : Rat} {u : Int} {d : Nat} (h0 : 0 < d) (h1 : d ≤ l) (h2 : u.natAbs ≤ k) (h : q * (d : Rat) = (u : Rat)) : FB k l q := by
 have hd : d ≠ 0 := by omega
 have e : q = mkRat u d := by
  rw [Rat.mkRat_eq_div]
  have : (d : Rat) ≠ 0 := fun e => hd (by exact_mod_cast e)
  rw [← h]
  generalize (d : Rat) = x at *
  rw [Rat.div_def, Rat.mul_assoc, Rat.mul_inv_cancel _ this, Rat.mul_one]
 subst e
 refine ⟨?_, ?_⟩
 ·rw [mk_num_abs hd]; exact Nat.le_trans (Nat.div_le_self _ _) h2
 ·rw [mk_den hd]; exact Nat.le_trans (Nat.div_le_self _ _) h1
theorem rat_nd (q : Rat) : q * (q.den : Rat) = (q.num : Rat) := by
 have h5 : (q.num : Rat) / (q.den : Rat) = q := by rw [← Rat.mkRat_eq_div, Rat.mkRat_self]
 have h6 : (q.den : Rat) ≠ 0 := fun e => q.den_nz (by exact_mod_cast e)
 generalize (q.num : Rat) = a at *
 generalize (q.den : Rat) = b at *
 rw [← h5]; grind
theorem Tryz.fmake (n d : Int) (hd : d ≠ 0) (hn : n.natAbs < 9223372036854775808) (hd2 : d.natAbs < 9223372036854775808) : Con Tryz.prog Tryz.L 39 [.int .i64 n, .int .i64 d] (fD ((n : Rat) / (d : Rat))) := by
 have e : (n : Rat) / (d : Rat) = mkRat (n * d.sign) d.natAbs := div_mk n d hd
 rw [e]
 have hz : d.natAbs ≠ 0 := by omega
 have hab : ((n * d.sign).natAbs : Int) = max (n * d.sign) (-(n * d.sign)) := by omega
 have hsg : d.sign.natAbs = 1 := by
  rcases Int.lt_trichotomy d 0 with h | h | h
  ·rw [Int.sign_eq_neg_one_of_neg h]; rfl
  ·omega
  ·rw [Int.sign_eq_one_of_pos h]; rfl
 have hna : (n * d.sign).natAbs = n.natAbs := by rw [Int.natAbs_mul, hsg, Nat.mul_one]
 have hg := Tryz.fgcd (n * d.sign).natAbs d.natAbs (by omega) hd2
 have h1 : fD (mkRat (n * d.sign) d.natAbs) = .agg [.int .i64 ((n * d.sign).tdiv (Nat.gcd (n * d.sign).natAbs d.natAbs : Nat)), .int .i64 ((d.natAbs : Int).tdiv (Nat.gcd (n * d.sign).natAbs d.natAbs : Nat))] := by
  unfold fD
  rw [mk_num hz, mk_den hz, gcd_tdiv]
  rw [show ((d.natAbs : Int).tdiv (Nat.gcd (n * d.sign).natAbs d.natAbs : Nat)) = ((d.natAbs / Nat.gcd (n * d.sign).natAbs d.natAbs : Nat) : Int) by rw [Int.tdiv_eq_ediv_of_nonneg (by omega)]; rfl]
 have hgp : Nat.gcd (n * d.sign).natAbs d.natAbs ≠ 0 := Nat.gcd_ne_zero_right hz
 have hs1 : ((n * d.sign).tdiv (Nat.gcd (n * d.sign).natAbs d.natAbs : Nat)).natAbs ≤ (n * d.sign).natAbs := by
  rw [gcd_tdiv]; exact natAbs_div_le _ _ (Int.ofNat_dvd_left.2 (Nat.gcd_dvd_left _ _))
 refine rule39 Tryz.hL rfl rfl rfl ?_
 (simp only [pc39, rs39, oU, oC]; refine ev ?_; try exact ⟨⟩)
 obtain ⟨N, hN⟩ : ∃ N, N = n * d.sign := ⟨_, rfl⟩
 obtain ⟨Dn, hD⟩ : ∃ Dn : Nat, Dn = d.natAbs := ⟨_, rfl⟩
 rw [← hN] at hna h1 hg hgp hs1 ⊢
 rw [← hD] at h1 hg hgp hs1 hz hd2 ⊢
 have h00 : N = 0 → fD (mkRat N Dn) = .agg [.int .i64 0, .int .i64 1] := fun h => by rw [h, Rat.zero_mkRat]; rfl
 refine ⟨fun hneg => ?_, fun hpos => ?_⟩
 ·have e1 : 0 - n = N := by rw [hN, Int.sign_eq_neg_one_of_neg hneg]; omega
  have e2 : 0 - d = (Dn : Int) := by omega
  simp only [e1, e2]
  refine ⟨by omega, by omega, fun h0 => by rw [h00 h0]; rfl, fun h0 => ⟨by omega, ?_⟩⟩
  rw [show (if 0 - N > N then 0 - N else N) = ((N.natAbs : Nat) : Int) by split <;> omega]
  refine callF_of hg ?_
  generalize N.natAbs.gcd Dn = q at *
  have hdq : ((Dn : Int).tdiv q).natAbs ≤ Dn := by rw [Int.natAbs_tdiv]; exact Nat.div_le_self _ _
  (refine ev ?_; try exact ⟨⟩)
  exact ⟨by omega, by omega, by omega, by omega, by rw [h1]; rfl⟩
 ·have e1 : n = N := by rw [hN, Int.sign_eq_one_of_pos (by omega)]; omega
  have e2 : d = (Dn : Int) := by omega
  rw [e1, e2]
  refine ⟨fun h0 => by rw [h00 h0]; rfl, fun h0 => ⟨by omega, ?_⟩⟩
  rw [show (if 0 - N > N then 0 - N else N) = ((N.natAbs : Nat) : Int) by split <;> omega]
  refine callF_of hg ?_
  generalize N.natAbs.gcd Dn = q at *
  have hdq : ((Dn : Int).tdiv q).natAbs ≤ Dn := by rw [Int.natAbs_tdiv]; exact Nat.div_le_self _ _
  (refine ev ?_; try exact ⟨⟩)
  exact ⟨by omega, by omega, by omega, by omega, by rw [h1]; rfl⟩
theorem Tryz.fdigits (n : Nat) (hn : n < 9223372036854775808) : Con Tryz.prog Tryz.L 88 [.int .i64 n] (.str (dd n)) := by
 refine rule88 Tryz.hL rfl rfl rfl ?_
 (simp only [pc88, rs88, oU, oC]; refine ev ?_; try exact ⟨⟩)
 refine loopF_of (fun E => ∃ (x : Nat) (s : List UInt8), x < 9223372036854775808 ∧ dd x ++ s = dd n ∧ E = [(0, .int .i64 x), (3, .str s)])
  (fun E => match lk E 0 with | .int _ i => i.toNat | _ => 0) ⟨n, [], hn, by simp, rfl⟩ ?_
 rintro _ ⟨x, s, hx, hs, rfl⟩
 have hby : ∀ u : Nat, u < 10 → [D.int .u8 (48 + (u : Int))] = byD [UInt8.ofNat (48 + u)] := fun u hu => by
  show _ = [D.int .u8 ((UInt8.ofNat (48 + u)).toNat : Int)]
  rw [UInt8.toNat_ofNat', Nat.mod_eq_of_lt (by omega)]
  rfl
 have hml := dd_len_mono (m := n) (n := 9223372036854775807) (by omega)
 have hl19 : (dd 9223372036854775807).length ≤ 20 := by decide +kernel
 have hsl := congrArg List.length hs
 rw [List.length_append] at hsl
 (refine ev ?_; try exact ⟨⟩)
 refine ⟨fun h => ?_, fun h => ?_⟩
 ·have e : (x : Int).tmod 10 = ((x % 10 : Nat) : Int) := by rw [Int.tmod_eq_emod_of_nonneg (by omega)]; rfl
  have e2 : (x : Int).tdiv 10 = ((x / 10 : Nat) : Int) := by rw [Int.tdiv_eq_ediv_of_nonneg (by omega)]; rfl
  rw [e, hby (x % 10) (by omega)]
  (refine ev ?_; try exact ⟨⟩)
  rw [e2]
  exact ⟨by omega, by omega, by omega, by omega, ⟨x / 10, UInt8.ofNat (48 + x % 10) :: s, by omega, by rw [← hs, dd_big (u := x) (by omega), List.append_assoc]; rfl, rfl, rfl⟩, by omega⟩
 ·rw [hby x (by omega)]
  (refine ev ?_; try exact ⟨⟩)
  exact ⟨by omega, by omega, by omega, by rw [← hs, dd_small (by omega)]; rfl⟩
theorem rt_text (q : Rat) : rt q = (if q.num < 0 then [45] else []) ++ dd q.num.natAbs ++ (if 1 < q.den then 47 :: dd q.den else []) := by
 have hd := q.den_pos
 by_cases h : q.den = 1
 ·rw [rt_int h, tz_nat, if_neg (show ¬1 < q.den by omega), List.append_nil]
  split <;> rfl
 ·rw [rt_frac h, tz_nat, if_pos (show 1 < q.den by omega)]
  split <;> rfl
/-- numbers that the reference takes without overflow -/
def SF (q : Rat) : Prop := q.num.natAbs ≤ 1000000000 ∧ q.den ≤ 1000000000
set_option maxHeartbeats 1000000 in
theorem Tryz.ftext (q : Rat) (h : SF q) : Con Tryz.prog Tryz.L 40 [fD q] (.str (rt q)) := by
 obtain ⟨h1, h2⟩ := h
 have hml := dd_len_mono (m := q.num.natAbs) (n := 9223372036854775807) (by omega)
 have hml2 := dd_len_mono (m := q.den) (n := 9223372036854775807) (by omega)
 have hl19 : (dd 9223372036854775807).length ≤ 20 := by decide +kernel
 have hab : (if 0 - q.num > q.num then 0 - q.num else q.num) = ((q.num.natAbs : Nat) : Int) := by split <;> omega
 have hg := Tryz.fdigits q.num.natAbs (by omega)
 have hg2 := Tryz.fdigits q.den (by omega)
 have ht := rt_text q
 have hd := q.den_pos
 refine rule40 Tryz.hL rfl rfl rfl ?_
 simp only [fD, pc40, rs40, oU, oC, evX, evY, evZ, forall_const, implies_true, initE, stepF, D.clean, mvF, moF, tkF, shF, ariF, ciF, catF, scF, ebF, eqF, eqOk, eqPr, enF, notF, ngF, cvF, csF, csbF, lenF, lenSF, ixF, iaF, PX.slot, iaAF, faF, ldF, D.mem, stF, bxF, mkSF, boundF, fldF, ixAF, mmF2, D.plain, D.isPure, optAll, D.dull, callVF, splice, D.cells, D.one, sets, resT, D.flat, D.flat0, D.simple, Nat.reduceBNe, Nat.reduceLT, reduceIte, Nat.reduceEqDiff, Nat.reduceAdd, Nat.reduceMul, Nat.reduceSub, Nat.reduceLeDiff, Int.reduceToNat, Int.reduceLT, Int.reduceLE, Int.reduceEq, Int.reduceNeg, Int.reduceSub, Int.reduceAdd, Int.reduceMul, stG_own]
 rw [hab]
 refine ⟨by omega, ?_⟩
 refine callF_of hg ?_
 generalize q.num = a at *
 generalize q.den = b at *
 (refine ev ?_; try exact ⟨⟩)
 refine ⟨fun h3 => ?_, fun h3 => ?_⟩
 ·rw [if_pos h3] at ht
  refine ⟨by omega, fun h4 => ?_, fun h4 => ?_⟩
  ·rw [if_pos (by omega)] at ht
   refine callF_of hg2 ?_
   (refine ev ?_; try exact ⟨⟩)
   exact ⟨by omega, by first | omega | (simp only [List.length_cons]; omega), by rw [ht]; rfl⟩
  ·rw [if_neg (by omega), List.append_nil] at ht
   rw [ht]; rfl
 ·rw [if_neg h3] at ht
  refine ⟨fun h4 => ?_, fun h4 => ?_⟩
  ·rw [if_pos (by omega)] at ht
   refine callF_of hg2 ?_
   (refine ev ?_; try exact ⟨⟩)
   exact ⟨by omega, by first | omega | (simp only [List.length_cons]; omega), by rw [ht]; rfl⟩
  ·rw [if_neg (by omega), List.append_nil] at ht
   rw [ht]; rfl
theorem den0 (q : Rat) : (q.den : Rat) ≠ 0 := fun e => q.den_nz (by exact_mod_cast e)
theorem fr_sub (p q : Rat) : ((p.num * q.den - q.num * p.den : Int) : Rat) / ((p.den * q.den : Int) : Rat) = p - q := by
 have h1 := rat_nd p; have h2 := rat_nd q
 have h3 := Rat.mul_inv_cancel _ (den0 p); have h4 := Rat.mul_inv_cancel _ (den0 q)
 rw [Rat.intCast_sub, Rat.intCast_mul, Rat.intCast_mul, Rat.intCast_mul, Rat.intCast_natCast, Rat.intCast_natCast, Rat.div_def, Rat.inv_mul_rev, ← h1, ← h2]
 generalize (p.den : Rat) = x at *
 generalize (q.den : Rat) = y at *
 grind
theorem fr_mul (p q : Rat) : ((p.num * q.num : Int) : Rat) / ((p.den * q.den : Int) : Rat) = p * q := by
 have h1 := rat_nd p; have h2 := rat_nd q
 have h3 := Rat.mul_inv_cancel _ (den0 p); have h4 := Rat.mul_inv_cancel _ (den0 q)
 rw [Rat.intCast_mul, Rat.intCast_mul, Rat.intCast_natCast, Rat.intCast_natCast, Rat.div_def, Rat.inv_mul_rev, ← h1, ← h2]
 generalize (p.den : Rat) = x at *
 generalize (q.den : Rat) = y at *
 grind
theorem fr_div (p q : Rat) (hq : q ≠ 0) : ((p.num * q.den : Int) : Rat) / ((p.den * q.num : Int) : Rat) = p / q := by
 have h1 := rat_nd p; have h2 := rat_nd q
 have h3 := Rat.mul_inv_cancel _ (den0 p); have h4 := Rat.mul_inv_cancel _ (den0 q)
 have h5 := Rat.mul_inv_cancel _ hq
 rw [Rat.intCast_mul, Rat.intCast_mul, Rat.intCast_natCast, Rat.intCast_natCast, Rat.div_def, Rat.inv_mul_rev, ← h1, ← h2, Rat.inv_mul_rev, Rat.div_def]
 generalize (p.den : Rat) = x at *
 generalize (q.den : Rat) = y at *
 grind
theorem mb {a b : Int} {k l : Nat} (h : a.natAbs ≤ k) (h' : b.natAbs ≤ l) : (a * b).natAbs ≤ k * l := by
 rw [Int.natAbs_mul]; exact Nat.mul_le_mul h h'
set_option maxHeartbeats 1000000 in
theorem Tryz.fsub (p q : Rat) (h : SF p) (h' : SF q) : Con Tryz.prog Tryz.L 68 [fD p, fD q] (fD (p - q)) := by
 obtain ⟨h1, h2⟩ := h
 obtain ⟨h3, h4⟩ := h'
 have b1 := mb h1 (show (q.den : Int).natAbs ≤ 1000000000 by omega)
 have b2 := mb h3 (show (p.den : Int).natAbs ≤ 1000000000 by omega)
 have b3 := mb (show (p.den : Int).natAbs ≤ 1000000000 by omega) (show (q.den : Int).natAbs ≤ 1000000000 by omega)
 have hnz : (p.den : Int) * (q.den : Int) ≠ 0 := by
  have := Nat.mul_pos p.den_pos q.den_pos
  rw [← Int.natCast_mul]; omega
 have hm := Tryz.fmake (p.num * q.den - q.num * p.den) ((p.den : Int) * q.den) hnz (by omega) (by omega)
 rw [fr_sub] at hm
 refine rule68 Tryz.hL rfl rfl rfl ?_
 simp only [fD, pc68, rs68, oU, oC, evX, evY, evZ, forall_const, implies_true, initE, stepF, D.clean, mvF, moF, tkF, shF, ariF, ciF, catF, scF, ebF, eqF, eqOk, eqPr, enF, notF, ngF, cvF, csF, csbF, lenF, lenSF, ixF, iaF, PX.slot, iaAF, faF, ldF, D.mem, stF, bxF, mkSF, boundF, fldF, ixAF, mmF2, D.plain, D.isPure, optAll, D.dull, callVF, splice, D.cells, D.one, sets, resT, D.flat, D.flat0, D.simple, Nat.reduceBNe, Nat.reduceLT, reduceIte, Nat.reduceEqDiff, Nat.reduceAdd, Nat.reduceMul, Nat.reduceSub, Nat.reduceLeDiff, Int.reduceToNat, Int.reduceLT, Int.reduceLE, Int.reduceEq, Int.reduceNeg, Int.reduceSub, Int.reduceAdd, Int.reduceMul, stG_own] at hm ⊢
 refine ⟨by omega, by omega, by omega, by omega, ?_⟩
 refine callF_of hm ?_
 (refine ev ?_; try exact ⟨⟩)
 rfl
set_option maxHeartbeats 1000000 in
theorem Tryz.fmul (p q : Rat) (h : SF p) (h' : SF q) : Con Tryz.prog Tryz.L 70 [fD p, fD q] (fD (p * q)) := by
 obtain ⟨h1, h2⟩ := h
 obtain ⟨h3, h4⟩ := h'
 have b1 := mb h1 h3
 have b3 := mb (show (p.den : Int).natAbs ≤ 1000000000 by omega) (show (q.den : Int).natAbs ≤ 1000000000 by omega)
 have hnz : (p.den : Int) * (q.den : Int) ≠ 0 := by
  have := Nat.mul_pos p.den_pos q.den_pos
  rw [← Int.natCast_mul]; omega
 have hm := Tryz.fmake (p.num * q.num) ((p.den : Int) * q.den) hnz (by omega) (by omega)
 rw [fr_mul] at hm
 refine rule70 Tryz.hL rfl rfl rfl ?_
 simp only [fD, pc70, rs70, oU, oC, evX, evY, evZ, forall_const, implies_true, initE, stepF, D.clean, mvF, moF, tkF, shF, ariF, ciF, catF, scF, ebF, eqF, eqOk, eqPr, enF, notF, ngF, cvF, csF, csbF, lenF, lenSF, ixF, iaF, PX.slot, iaAF, faF, ldF, D.mem, stF, bxF, mkSF, boundF, fldF, ixAF, mmF2, D.plain, D.isPure, optAll, D.dull, callVF, splice, D.cells, D.one, sets, resT, D.flat, D.flat0, D.simple, Nat.reduceBNe, Nat.reduceLT, reduceIte, Nat.reduceEqDiff, Nat.reduceAdd, Nat.reduceMul, Nat.reduceSub, Nat.reduceLeDiff, Int.reduceToNat, Int.reduceLT, Int.reduceLE, Int.reduceEq, Int.reduceNeg, Int.reduceSub, Int.reduceAdd, Int.reduceMul, stG_own] at hm ⊢
 refine ⟨by omega, by omega, ?_⟩
 refine callF_of hm ?_
 (refine ev ?_; try exact ⟨⟩)
 rfl
set_option maxHeartbeats 1000000 in
theorem Tryz.fdiv (p q : Rat) (h : SF p) (h' : SF q) (h0 : q ≠ 0) : Con Tryz.prog Tryz.L 69 [fD p, fD q] (fD (p / q)) := by
 obtain ⟨h1, h2⟩ := h
 obtain ⟨h3, h4⟩ := h'
 have b1 := mb h1 (show (q.den : Int).natAbs ≤ 1000000000 by omega)
 have b3 := mb (show (p.den : Int).natAbs ≤ 1000000000 by omega) h3
 have hqn : q.num ≠ 0 := fun e => h0 (Rat.num_eq_zero.1 e)
 have hnz : (p.den : Int) * q.num ≠ 0 := Int.mul_ne_zero (by have := p.den_pos; omega) hqn
 have hm := Tryz.fmake (p.num * q.den) ((p.den : Int) * q.num) hnz (by omega) (by omega)
 rw [fr_div p q h0] at hm
 refine rule69 Tryz.hL rfl rfl rfl ?_
 simp only [fD, pc69, rs69, oU, oC, evX, evY, evZ, forall_const, implies_true, initE, stepF, D.clean, mvF, moF, tkF, shF, ariF, ciF, catF, scF, ebF, eqF, eqOk, eqPr, enF, notF, ngF, cvF, csF, csbF, lenF, lenSF, ixF, iaF, PX.slot, iaAF, faF, ldF, D.mem, stF, bxF, mkSF, boundF, fldF, ixAF, mmF2, D.plain, D.isPure, optAll, D.dull, callVF, splice, D.cells, D.one, sets, resT, D.flat, D.flat0, D.simple, Nat.reduceBNe, Nat.reduceLT, reduceIte, Nat.reduceEqDiff, Nat.reduceAdd, Nat.reduceMul, Nat.reduceSub, Nat.reduceLeDiff, Int.reduceToNat, Int.reduceLT, Int.reduceLE, Int.reduceEq, Int.reduceNeg, Int.reduceSub, Int.reduceAdd, Int.reduceMul, stG_own] at hm ⊢
 refine ⟨by omega, by omega, ?_⟩
 refine callF_of hm ?_
 (refine ev ?_; try exact ⟨⟩)
 rfl
theorem Tryz.fzero : Con Tryz.prog Tryz.L 36 [] (fD 0) := by
 refine rule36 Tryz.hL rfl rfl rfl ?_
 (simp only [pc36, rs36, oU, oC]; refine ev ?_; try exact ⟨⟩)
 rfl
theorem Tryz.fone : Con Tryz.prog Tryz.L 47 [] (fD 1) := by
 refine rule47 Tryz.hL rfl rfl rfl ?_
 (simp only [pc47, rs47, oU, oC]; refine ev ?_; try exact ⟨⟩)
 rfl
/-- with a common denominator -/
def CB (D k : Nat) (q : Rat) : Prop := ∃ u : Int, u.natAbs ≤ k ∧ q * (D : Rat) = (u : Rat)
theorem CB.sf {D k : Nat} {q : Rat} (h : CB D k q) (h0 : 0 < D) (h1 : D ≤ 1000000000) (h2 : k ≤ 1000000000) : SF q := by
 obtain ⟨u, h3, h4⟩ := h
 exact fb_of h0 h1 (Nat.le_trans h3 h2) h4
theorem CB.mono {D k l : Nat} {q : Rat} (h : CB D k q) (h1 : k ≤ l) : CB D l q := by
 obtain ⟨u, h3, h4⟩ := h
 exact ⟨u, Nat.le_trans h3 h1, h4⟩
theorem CB.mul {D E k l : Nat} {p q : Rat} (h : CB D k p) (h' : CB E l q) : CB (D * E) (k * l) (p * q) := by
 obtain ⟨u, h1, h2⟩ := h
 obtain ⟨v, h3, h4⟩ := h'
 exact ⟨u * v, mb h1 h3, by rw [Rat.natCast_mul, Rat.intCast_mul, ← h2, ← h4]; grind⟩
theorem CB.add {D k l : Nat} {p q : Rat} (h : CB D k p) (h' : CB D l q) : CB D (k + l) (p + q) := by
 obtain ⟨u, h1, h2⟩ := h
 obtain ⟨v, h3, h4⟩ := h'
 exact ⟨u + v, by omega, by rw [Rat.intCast_add, ← h2, ← h4]; grind⟩
theorem CB.neg {D k : Nat} {p : Rat} (h : CB D k p) : CB D k (-p) := by
 obtain ⟨u, h1, h2⟩ := h
 exact ⟨-u, by omega, by rw [Rat.intCast_neg, ← h2]; grind⟩
theorem CB.sub {D k l : Nat} {p q : Rat} (h : CB D k p) (h' : CB D l q) : CB D (k + l) (p - q) := by
 rw [Rat.sub_eq_add_neg]; exact h.add h'.neg
theorem CB.up {D k : Nat} {p : Rat} (h : CB D k p) (E : Nat) : CB (D * E) (k * E) p := by
 obtain ⟨u, h1, h2⟩ := h
 exact ⟨u * E, by rw [Int.natAbs_mul, Int.natAbs_natCast]; exact Nat.mul_le_mul_right _ h1, by rw [Rat.natCast_mul, Rat.intCast_mul, ← h2, Rat.intCast_natCast]; grind⟩
end Go.Proofs

/-
 AFFINE: vectors, rows and maps (plain). Own work.
-/
namespace Go.Proofs
open Go Go.Pi Go.RowKit Go.Shelf Go.Ar Go.Mx

structure V3 where
 x : Rat
 y : Rat
 z : Rat
namespace V3
def at' (v : V3) (i : Nat) : Rat := if i = 0 then v.x else if i = 1 then v.y else v.z
def of (f : Nat → Rat) : V3 := ⟨f 0, f 1, f 2⟩
def dot (u v : V3) : Rat := u.x * v.x + u.y * v.y + u.z * v.z
def cross (u v : V3) : V3 := ⟨u.y * v.z - u.z * v.y, u.z * v.x - u.x * v.z, u.x * v.y - u.y * v.x⟩
def add (u v : V3) : V3 := ⟨u.x + v.x, u.y + v.y, u.z + v.z⟩
def sub (u v : V3) : V3 := ⟨u.x - v.x, u.y - v.y, u.z - v.z⟩
def mul (u : V3) (k : Rat) : V3 := ⟨u.x * k, u.y * k, u.z * k⟩
/-- numbers of at most so many digits -/
def rd (k : Nat) (v : V3) : Prop := Go.Ar.rd v.x ≤ k ∧ Go.Ar.rd v.y ≤ k ∧ Go.Ar.rd v.z ≤ k
/-- the texts -/
def L (v : V3) : List D := [.str (rt v.x), .str (rt v.y), .str (rt v.z)]
end V3
structure G3 where
 a : V3
 b : V3
 c : V3
namespace G3
def col (g : G3) (i : Nat) : V3 := ⟨g.a.at' i, g.b.at' i, g.c.at' i⟩
def tr (g : G3) : G3 := ⟨g.col 0, g.col 1, g.col 2⟩
def row (g : G3) (i : Nat) : V3 := if i = 0 then g.a else if i = 1 then g.b else g.c
def app (g : G3) (v : V3) : V3 := ⟨g.a.dot v, g.b.dot v, g.c.dot v⟩
def det (g : G3) : Rat := g.a.dot (g.b.cross g.c)
def rd (k : Nat) (g : G3) : Prop := g.a.rd k ∧ g.b.rd k ∧ g.c.rd k
def L (g : G3) : List D := [.str (rt g.a.x), .str (rt g.a.y), .str (rt g.a.z), .str (rt g.b.x), .str (rt g.b.y), .str (rt g.b.z), .str (rt g.c.x), .str (rt g.c.y), .str (rt g.c.z)]
def adj (g : G3) : G3 := G3.tr ⟨g.b.cross g.c, g.c.cross g.a, g.a.cross g.b⟩
def inv (g : G3) : G3 := ⟨g.adj.a.mul (1 / g.det), g.adj.b.mul (1 / g.det), g.adj.c.mul (1 / g.det)⟩
def mul (g h : G3) : G3 := ⟨⟨g.a.dot (h.col 0), g.a.dot (h.col 1), g.a.dot (h.col 2)⟩, ⟨g.b.dot (h.col 0), g.b.dot (h.col 1), g.b.dot (h.col 2)⟩, ⟨g.c.dot (h.col 0), g.c.dot (h.col 1), g.c.dot (h.col 2)⟩⟩
end G3
namespace V3
/-- as fractions of the reference -/
def F (v : V3) : List D := [.int .i64 v.x.num, .int .i64 v.x.den, .int .i64 v.y.num, .int .i64 v.y.den, .int .i64 v.z.num, .int .i64 v.z.den]
def SF (v : V3) : Prop := Go.Proofs.SF v.x ∧ Go.Proofs.SF v.y ∧ Go.Proofs.SF v.z
def CB (D k : Nat) (v : V3) : Prop := Go.Proofs.CB D k v.x ∧ Go.Proofs.CB D k v.y ∧ Go.Proofs.CB D k v.z
/-- what a dot product needs -/
def DotOk (u v : V3) : Prop := Go.Proofs.SF (u.x * v.x) ∧ Go.Proofs.SF (u.y * v.y) ∧ Go.Proofs.SF (u.z * v.z) ∧ Go.Proofs.SF (u.y * v.y + u.z * v.z)
theorem CB.sf {D k : Nat} {v : V3} (h : v.CB D k) (h0 : 0 < D) (h1 : D ≤ 1000000000) (h2 : k ≤ 1000000000) : v.SF := ⟨h.1.sf h0 h1 h2, h.2.1.sf h0 h1 h2, h.2.2.sf h0 h1 h2⟩
theorem CB.mono {D k l : Nat} {v : V3} (h : v.CB D k) (h1 : k ≤ l) : v.CB D l := ⟨h.1.mono h1, h.2.1.mono h1, h.2.2.mono h1⟩
theorem CB.dot {D E k l : Nat} {u v : V3} (h : u.CB D k) (h' : v.CB E l) : Go.Proofs.CB (D * E) (3 * (k * l)) (u.dot v) :=
 (((h.1.mul h'.1).add (h.2.1.mul h'.2.1)).add (h.2.2.mul h'.2.2)).mono (by omega)
theorem CB.cross {D E k l : Nat} {u v : V3} (h : u.CB D k) (h' : v.CB E l) : (u.cross v).CB (D * E) (2 * (k * l)) :=
 ⟨((h.2.1.mul h'.2.2).sub (h.2.2.mul h'.2.1)).mono (by omega), ((h.2.2.mul h'.1).sub (h.1.mul h'.2.2)).mono (by omega), ((h.1.mul h'.2.1).sub (h.2.1.mul h'.1)).mono (by omega)⟩
theorem CB.add {D k l : Nat} {u v : V3} (h : u.CB D k) (h' : v.CB D l) : (u.add v).CB D (k + l) := ⟨h.1.add h'.1, h.2.1.add h'.2.1, h.2.2.add h'.2.2⟩
theorem CB.mul {D E k l : Nat} {u : V3} {q : Rat} (h : u.CB D k) (h' : Go.Proofs.CB E l q) : (u.mul q).CB (D * E) (k * l) := ⟨h.1.mul h', h.2.1.mul h', h.2.2.mul h'⟩
theorem CB.up {D k : Nat} {u : V3} (h : u.CB D k) (E : Nat) : u.CB (D * E) (k * E) := ⟨h.1.up E, h.2.1.up E, h.2.2.up E⟩
end V3
/-- a map -/
structure M3 where
 g : G3
 s : V3
namespace M3
def F (m : M3) : List D := [.int .i64 m.g.a.x.num, .int .i64 m.g.a.x.den, .int .i64 m.g.a.y.num, .int .i64 m.g.a.y.den, .int .i64 m.g.a.z.num, .int .i64 m.g.a.z.den, .int .i64 m.g.b.x.num, .int .i64 m.g.b.x.den, .int .i64 m.g.b.y.num, .int .i64 m.g.b.y.den, .int .i64 m.g.b.z.num, .int .i64 m.g.b.z.den, .int .i64 m.g.c.x.num, .int .i64 m.g.c.x.den, .int .i64 m.g.c.y.num, .int .i64 m.g.c.y.den, .int .i64 m.g.c.z.num, .int .i64 m.g.c.z.den, .int .i64 m.s.x.num, .int .i64 m.s.x.den, .int .i64 m.s.y.num, .int .i64 m.s.y.den, .int .i64 m.s.z.num, .int .i64 m.s.z.den]
def L (m : M3) : List D := [.str (rt m.g.a.x), .str (rt m.g.a.y), .str (rt m.g.a.z), .str (rt m.g.b.x), .str (rt m.g.b.y), .str (rt m.g.b.z), .str (rt m.g.c.x), .str (rt m.g.c.y), .str (rt m.g.c.z), .str (rt m.s.x), .str (rt m.s.y), .str (rt m.s.z)]
def SF (m : M3) : Prop := m.g.a.SF ∧ m.g.b.SF ∧ m.g.c.SF ∧ m.s.SF
end M3
theorem CB.one : CB 1 1 1 := ⟨1, by decide, by decide +kernel⟩
end Go.Proofs

/-
 AFFINE: the functions of the reference (klipperef08). Own work.
-/
namespace Go.Proofs
open Go Go.Pi Go.RowKit Go.Shelf Go.Ar Go.Mx

end Go.Proofs

/-
 AFFINE: further functions of the reference (klipperef08), printed by tools/aff.py. Own work.
-/
namespace Go.Proofs
open Go Go.Pi Go.RowKit Go.Shelf Go.Ar Go.Mx

/-- what a cross product needs -/
def V3.CrossOk (u v : V3) : Prop := Go.Proofs.SF (u.y * v.z) ∧ Go.Proofs.SF (u.z * v.y) ∧ Go.Proofs.SF (u.z * v.x) ∧ Go.Proofs.SF (u.x * v.z) ∧ Go.Proofs.SF (u.x * v.y) ∧ Go.Proofs.SF (u.y * v.x)
theorem V3.mul_one (v : V3) : v.mul 1 = v := by cases v; simp [V3.mul, Rat.mul_one]
set_option maxHeartbeats 1000000 in
theorem Tryz.wvector (v : V3) (hv : v.SF) : Con Tryz.prog Tryz.L 18 [.agg v.F] (.agg v.L) := by
 have t1 := Tryz.ftext v.x hv.1
 have t2 := Tryz.ftext v.y hv.2.1
 have t3 := Tryz.ftext v.z hv.2.2
 refine rule18 Tryz.hL rfl rfl rfl ?_
 simp only [fD, V3.F, M3.F, V3.L, M3.L, pc18, rs18, oU, oC, evX, evY, evZ, forall_const, implies_true, initE, stepF, D.clean, mvF, moF, tkF, shF, ariF, ciF, catF, scF, ebF, eqF, eqOk, eqPr, enF, notF, ngF, cvF, csF, csbF, lenF, lenSF, ixF, iaF, PX.slot, iaAF, faF, ldF, D.mem, stF, bxF, mkSF, boundF, fldF, ixAF, mmF2, D.plain, D.isPure, optAll, D.dull, callVF, splice, D.cells, D.one, sets, resT, D.flat, D.flat0, D.simple, Nat.reduceBNe, Nat.reduceLT, reduceIte, Nat.reduceEqDiff, Nat.reduceAdd, Nat.reduceMul, Nat.reduceSub, Nat.reduceLeDiff, Int.reduceToNat, Int.reduceLT, Int.reduceLE, Int.reduceEq, Int.reduceNeg, Int.reduceSub, Int.reduceAdd, Int.reduceMul, stG_own] at t1 t2 t3 ⊢
 repeat (refine ⟨by decide, ?_⟩)
 refine callF_of t1 ?_
 (refine ev ?_; try exact ⟨⟩)
 repeat (refine ⟨by decide, ?_⟩)
 refine callF_of t2 ?_
 (refine ev ?_; try exact ⟨⟩)
 repeat (refine ⟨by decide, ?_⟩)
 refine callF_of t3 ?_
 (refine ev ?_; try exact ⟨⟩)
 rfl
set_option maxHeartbeats 1000000 in
theorem Tryz.waffine (m : M3) (hm : m.SF) : Con Tryz.prog Tryz.L 37 [.agg m.F] (.agg m.L) := by
 have t1 := Tryz.wvector m.g.a hm.1
 have t2 := Tryz.wvector m.g.b hm.2.1
 have t3 := Tryz.wvector m.g.c hm.2.2.1
 have t4 := Tryz.wvector m.s hm.2.2.2
 refine rule37 Tryz.hL rfl rfl rfl ?_
 simp only [fD, V3.F, M3.F, V3.L, M3.L, pc37, rs37, oU, oC, evX, evY, evZ, forall_const, implies_true, initE, stepF, D.clean, mvF, moF, tkF, shF, ariF, ciF, catF, scF, ebF, eqF, eqOk, eqPr, enF, notF, ngF, cvF, csF, csbF, lenF, lenSF, ixF, iaF, PX.slot, iaAF, faF, ldF, D.mem, stF, bxF, mkSF, boundF, fldF, ixAF, mmF2, D.plain, D.isPure, optAll, D.dull, callVF, splice, D.cells, D.one, sets, resT, D.flat, D.flat0, D.simple, Nat.reduceBNe, Nat.reduceLT, reduceIte, Nat.reduceEqDiff, Nat.reduceAdd, Nat.reduceMul, Nat.reduceSub, Nat.reduceLeDiff, Int.reduceToNat, Int.reduceLT, Int.reduceLE, Int.reduceEq, Int.reduceNeg, Int.reduceSub, Int.reduceAdd, Int.reduceMul, stG_own] at t1 t2 t3 t4 ⊢
 repeat (refine ⟨by decide, ?_⟩)
 refine callF_of t1 ?_
 (refine ev ?_; try exact ⟨⟩)
 repeat (refine ⟨by decide, ?_⟩)
 refine callF_of t2 ?_
 (refine ev ?_; try exact ⟨⟩)
 repeat (refine ⟨by decide, ?_⟩)
 refine callF_of t3 ?_
 (refine ev ?_; try exact ⟨⟩)
 repeat (refine ⟨by decide, ?_⟩)
 refine callF_of t4 ?_
 (refine ev ?_; try exact ⟨⟩)
 rfl
/-- the map of w, and then m -/
def M3.comp (m w : M3) : M3 := ⟨m.g.mul w.g, (m.g.app w.s).add m.s⟩
end Go.Proofs

/-
 AFFINE: the reference's Inverse, printed by tools/aff.py. Own work.
-/
namespace Go.Proofs
open Go Go.Pi Go.RowKit Go.Shelf Go.Ar Go.Mx

def M3.inv (m : M3) : M3 := ⟨m.g.inv, (m.g.inv.app m.s).mul (-1)⟩
theorem V3.zero_add (v : V3) : V3.add ⟨0, 0, 0⟩ v = v := by cases v; simp [V3.add, Rat.zero_add]
def V3.zero : V3 := ⟨0, 0, 0⟩
end Go.Proofs

/-
 AFFINE: vectors and rows as texts; the inner functions of the package affine. Own work.
-/
namespace Go.Proofs
open Go Go.Pi Go.RowKit Go.Shelf Go.Ar Go.Mx

theorem nbk {k : Nat} {q : Rat} (h : rd q ≤ k) : NB k k q := by
 have h1 : q.num.natAbs < 10 ^ (dd q.num.natAbs).length := dd_lt _
 have h2 : q.den < 10 ^ (dd q.den).length := dd_lt _
 have h3 : (dd q.num.natAbs).length ≤ k := Nat.le_trans (Nat.le_max_left _ _) h
 have h4 : (dd q.den).length ≤ k := Nat.le_trans (Nat.le_max_right _ _) h
 refine ⟨q.num, q.den, q.den_pos, Nat.le_trans (Nat.le_of_lt h2) (pow_mono h4), Nat.le_trans (Nat.le_of_lt h1) (pow_mono h3), ?_⟩
 have h5 : (q.num : Rat) / (q.den : Rat) = q := by rw [← Rat.mkRat_eq_div, Rat.mkRat_self]
 have h6 : (q.den : Rat) ≠ 0 := fun e => q.den_nz (by exact_mod_cast e)
 generalize (q.num : Rat) = a at *
 generalize (q.den : Rat) = b at *
 rw [← h5]; grind
theorem rd_mul {k l : Nat} {p q : Rat} (h : rd p ≤ k) (h' : rd q ≤ l) : rd (p * q) ≤ k + l + 1 := by
 have := rd_nb ((nbk h).mul (nbk h')); omega
theorem rd_add {k l : Nat} {p q : Rat} (h : rd p ≤ k) (h' : rd q ≤ l) : rd (p + q) ≤ k + l + 2 := by
 have := rd_nb ((nbk h).add (nbk h')); omega
theorem rd_neg {k : Nat} {p : Rat} (h : rd p ≤ k) : rd (-p) ≤ k + 1 := by
 have := rd_nb ((nbk h).neg); omega
theorem rd_sub {k l : Nat} {p q : Rat} (h : rd p ≤ k) (h' : rd q ≤ l) : rd (p - q) ≤ k + l + 3 := by
 rw [Rat.sub_eq_add_neg]
 have := rd_add h (rd_neg h'); omega
namespace V3
theorem rd_at {k : Nat} {v : V3} (h : v.rd k) (i : Nat) : Go.Ar.rd (v.at' i) ≤ k := by
 unfold at'; split
 ·exact h.1
 ·split
  ·exact h.2.1
  ·exact h.2.2
theorem rd_mono {k l : Nat} {v : V3} (h : v.rd k) (h' : k ≤ l) : v.rd l := ⟨Nat.le_trans h.1 h', Nat.le_trans h.2.1 h', Nat.le_trans h.2.2 h'⟩
theorem rd_dot {k l : Nat} {u v : V3} (h : u.rd k) (h' : v.rd l) : Go.Ar.rd (u.dot v) ≤ 3 * (k + l + 1) + 4 := by
 have := rd_add (rd_add (rd_mul h.1 h'.1) (rd_mul h.2.1 h'.2.1)) (rd_mul h.2.2 h'.2.2)
 unfold dot; omega
end V3
/-! closures -/
theorem Tryz.aeach (f : Nat) (caps : List D) (v : V3) (hc : caps.all D.isPure = true) (h : Con Tryz.prog Tryz.L f (.int .i64 0 :: caps) (.str (rt v.x)) ∧ Con Tryz.prog Tryz.L f (.int .i64 1 :: caps) (.str (rt v.y)) ∧ Con Tryz.prog Tryz.L f (.int .i64 2 :: caps) (.str (rt v.z))) : Con Tryz.prog Tryz.L 97 [.clo f caps] (.agg v.L) := by
 obtain ⟨h0, h1, h2⟩ := h
 refine rule97 Tryz.hL rfl rfl rfl ?_
 simp only [V3.L, pc97, rs97, oU, oC, evX, evY, evZ, forall_const, implies_true, initE, stepF, D.clean, mvF, moF, tkF, shF, ariF, ciF, catF, scF, ebF, eqF, eqOk, eqPr, enF, notF, ngF, cvF, csF, csbF, lenF, lenSF, ixF, iaF, PX.slot, iaAF, faF, ldF, D.mem, stF, bxF, mkSF, boundF, fldF, ixAF, mmF2, D.plain, D.isPure, optAll, D.dull, callVF, splice, D.cells, D.one, sets, resT, D.flat, D.flat0, D.simple, Nat.reduceBNe, Nat.reduceLT, reduceIte, Nat.reduceEqDiff, Nat.reduceAdd, Nat.reduceMul, Nat.reduceSub, Nat.reduceLeDiff, Int.reduceToNat, Int.reduceLT, Int.reduceLE, Int.reduceEq, Int.reduceNeg, Int.reduceSub, Int.reduceAdd, Int.reduceMul, stG_own]
 refine callF_of h0 ?_
 (refine ev ?_; try exact ⟨⟩)
 refine callF_of h1 ?_
 (refine ev ?_; try exact ⟨⟩)
 refine callF_of h2 ?_
 (refine ev ?_; try exact ⟨⟩)
 rfl
end Go.Proofs

/-
 AFFINE: the inner functions of the package affine, printed by tools/aff2.py. Own work.
-/
namespace Go.Proofs
open Go Go.Pi Go.RowKit Go.Shelf Go.Ar Go.Mx

set_option maxHeartbeats 2000000 in
theorem Tryz.rsum3 (a b c : Rat) (ha : rd a ≤ 4000) (hb : rd b ≤ 4000) (hc : rd c ≤ 4000) (hab : rd (a + b) ≤ 5000) : Con Tryz.prog Tryz.L 31 [.sl 3 [.str (rt a), .str (rt b), .str (rt c)]] (.str (rt (a + b + c))) := by
 have h0 := Tryz.radd 0 a (by decide +kernel) (by omega)
 rw [rt_zero.2 rfl, Rat.zero_add] at h0
 have h1 := Tryz.radd a b (by omega) (by omega)
 have h2 := Tryz.radd (a + b) c hab (by omega)
 refine rule31 Tryz.hL rfl rfl rfl ?_
 (simp only [pc31, rs31, oU, oC]; refine ev ?_; try exact ⟨⟩)
 refine loopF_of (fun E => ∃ (p : List UInt8) (i : Int), ((i = 0 ∧ p = [48]) ∨ (i = 1 ∧ p = rt a) ∨ (i = 2 ∧ p = rt (a + b)) ∨ (i = 3 ∧ p = rt (a + b + c))) ∧ E = [(3, .str p), (6, .sl 3 [.str (rt a), .str (rt b), .str (rt c)]), (7, .int .i64 3), (8, .int .i64 i)])
  (fun E => match lk E 8 with | .int _ i => (3 - i).toNat | _ => 0) ⟨_, _, .inl ⟨rfl, rfl⟩, by simp⟩ ?_
 rintro _ ⟨p, i, hp, rfl⟩
 rcases hp with ⟨rfl, rfl⟩ | ⟨rfl, rfl⟩ | ⟨rfl, rfl⟩ | ⟨rfl, rfl⟩
 ·(refine ev ?_; try exact ⟨⟩)
  repeat (refine ⟨by decide, ?_⟩)
  refine callF_of h0 ?_
  (refine ev ?_; try exact ⟨⟩)
  exact ⟨_, _, .inr (.inl ⟨rfl, rfl⟩), by simp⟩
 ·(refine ev ?_; try exact ⟨⟩)
  repeat (refine ⟨by decide, ?_⟩)
  refine callF_of h1 ?_
  (refine ev ?_; try exact ⟨⟩)
  exact ⟨_, _, .inr (.inr (.inl ⟨rfl, rfl⟩)), by simp⟩
 ·(refine ev ?_; try exact ⟨⟩)
  repeat (refine ⟨by decide, ?_⟩)
  refine callF_of h2 ?_
  (refine ev ?_; try exact ⟨⟩)
  exact ⟨_, _, .inr (.inr (.inr ⟨rfl, rfl⟩)), by simp⟩
 ·(refine ev ?_; try exact ⟨⟩)
set_option maxHeartbeats 1000000 in
theorem Tryz.adot {k l : Nat} (u v : V3) (hu : u.rd k) (hv : v.rd l) (hkl : k + l ≤ 1600) : Con Tryz.prog Tryz.L 76 [.agg u.L, .agg v.L] (.str (rt (u.dot v))) := by
 have p0 := Tryz.rmul u.x v.x (by have := hu.1; omega) (by have := hv.1; omega)
 have p1 := Tryz.rmul u.y v.y (by have := hu.2.1; omega) (by have := hv.2.1; omega)
 have p2 := Tryz.rmul u.z v.z (by have := hu.2.2; omega) (by have := hv.2.2; omega)
 have s0 := rd_mul hu.1 hv.1
 have s1 := rd_mul hu.2.1 hv.2.1
 have s2 := rd_mul hu.2.2 hv.2.2
 have s := Tryz.rsum3 (u.x * v.x) (u.y * v.y) (u.z * v.z) (by omega) (by omega) (by omega) (by have := rd_add s0 s1; omega)
 refine rule76 Tryz.hL rfl rfl rfl ?_
 simp only [V3.L, G3.L, M3.L, pc76, rs76, oU, oC, evX, evY, evZ, forall_const, implies_true, initE, stepF, D.clean, mvF, moF, tkF, shF, ariF, ciF, catF, scF, ebF, eqF, eqOk, eqPr, enF, notF, ngF, cvF, csF, csbF, lenF, lenSF, ixF, iaF, PX.slot, iaAF, faF, ldF, D.mem, stF, bxF, mkSF, boundF, fldF, ixAF, mmF2, D.plain, D.isPure, optAll, D.dull, callVF, splice, D.cells, D.one, sets, resT, D.flat, D.flat0, D.simple, Nat.reduceBNe, Nat.reduceLT, reduceIte, Nat.reduceEqDiff, Nat.reduceAdd, Nat.reduceMul, Nat.reduceSub, Nat.reduceLeDiff, Int.reduceToNat, Int.reduceLT, Int.reduceLE, Int.reduceEq, Int.reduceNeg, Int.reduceSub, Int.reduceAdd, Int.reduceMul, stG_own] at p0 p1 p2 s ⊢
 repeat (refine ⟨by decide, ?_⟩)
 refine callF_of p0 ?_
 (refine ev ?_; try exact ⟨⟩)
 repeat (refine ⟨by decide, ?_⟩)
 refine callF_of p1 ?_
 (refine ev ?_; try exact ⟨⟩)
 repeat (refine ⟨by decide, ?_⟩)
 refine callF_of p2 ?_
 (refine ev ?_; try exact ⟨⟩)
 repeat (refine ⟨by decide, ?_⟩)
 refine callF_of s ?_
 (refine ev ?_; try exact ⟨⟩)
 rfl
set_option maxHeartbeats 2000000 in
theorem Tryz.aaddC {k l : Nat} (u v : V3) (hu : u.rd k) (hv : v.rd l) (hk : k ≤ 5000) (hl : l ≤ 5000) : Con Tryz.prog Tryz.L 111 [.int .i64 0, .pt u.L, .pt v.L] (.str (rt (u.x + v.x))) ∧ Con Tryz.prog Tryz.L 111 [.int .i64 1, .pt u.L, .pt v.L] (.str (rt (u.y + v.y))) ∧ Con Tryz.prog Tryz.L 111 [.int .i64 2, .pt u.L, .pt v.L] (.str (rt (u.z + v.z))) := by
 refine ⟨?_, ?_, ?_⟩
 ·refine rule111 Tryz.hL rfl rfl rfl ?_
  simp only [V3.L, G3.L, M3.L, pc111, rs111, oU, oC, evX, evY, evZ, forall_const, implies_true, initE, stepF, D.clean, mvF, moF, tkF, shF, ariF, ciF, catF, scF, ebF, eqF, eqOk, eqPr, enF, notF, ngF, cvF, csF, csbF, lenF, lenSF, ixF, iaF, PX.slot, iaAF, faF, ldF, D.mem, stF, bxF, mkSF, boundF, fldF, ixAF, mmF2, D.plain, D.isPure, optAll, D.dull, callVF, splice, D.cells, D.one, sets, resT, D.flat, D.flat0, D.simple, Nat.reduceBNe, Nat.reduceLT, reduceIte, Nat.reduceEqDiff, Nat.reduceAdd, Nat.reduceMul, Nat.reduceSub, Nat.reduceLeDiff, Int.reduceToNat, Int.reduceLT, Int.reduceLE, Int.reduceEq, Int.reduceNeg, Int.reduceSub, Int.reduceAdd, Int.reduceMul, stG_own]
  repeat (refine ⟨by decide, ?_⟩)
  refine callF_of (Tryz.radd u.x v.x (by have := hu.1; omega) (by have := hv.1; omega)) ?_
  (refine ev ?_; try exact ⟨⟩)
 ·refine rule111 Tryz.hL rfl rfl rfl ?_
  simp only [V3.L, G3.L, M3.L, pc111, rs111, oU, oC, evX, evY, evZ, forall_const, implies_true, initE, stepF, D.clean, mvF, moF, tkF, shF, ariF, ciF, catF, scF, ebF, eqF, eqOk, eqPr, enF, notF, ngF, cvF, csF, csbF, lenF, lenSF, ixF, iaF, PX.slot, iaAF, faF, ldF, D.mem, stF, bxF, mkSF, boundF, fldF, ixAF, mmF2, D.plain, D.isPure, optAll, D.dull, callVF, splice, D.cells, D.one, sets, resT, D.flat, D.flat0, D.simple, Nat.reduceBNe, Nat.reduceLT, reduceIte, Nat.reduceEqDiff, Nat.reduceAdd, Nat.reduceMul, Nat.reduceSub, Nat.reduceLeDiff, Int.reduceToNat, Int.reduceLT, Int.reduceLE, Int.reduceEq, Int.reduceNeg, Int.reduceSub, Int.reduceAdd, Int.reduceMul, stG_own]
  repeat (refine ⟨by decide, ?_⟩)
  refine callF_of (Tryz.radd u.y v.y (by have := hu.2.1; omega) (by have := hv.2.1; omega)) ?_
  (refine ev ?_; try exact ⟨⟩)
 ·refine rule111 Tryz.hL rfl rfl rfl ?_
  simp only [V3.L, G3.L, M3.L, pc111, rs111, oU, oC, evX, evY, evZ, forall_const, implies_true, initE, stepF, D.clean, mvF, moF, tkF, shF, ariF, ciF, catF, scF, ebF, eqF, eqOk, eqPr, enF, notF, ngF, cvF, csF, csbF, lenF, lenSF, ixF, iaF, PX.slot, iaAF, faF, ldF, D.mem, stF, bxF, mkSF, boundF, fldF, ixAF, mmF2, D.plain, D.isPure, optAll, D.dull, callVF, splice, D.cells, D.one, sets, resT, D.flat, D.flat0, D.simple, Nat.reduceBNe, Nat.reduceLT, reduceIte, Nat.reduceEqDiff, Nat.reduceAdd, Nat.reduceMul, Nat.reduceSub, Nat.reduceLeDiff, Int.reduceToNat, Int.reduceLT, Int.reduceLE, Int.reduceEq, Int.reduceNeg, Int.reduceSub, Int.reduceAdd, Int.reduceMul, stG_own]
  repeat (refine ⟨by decide, ?_⟩)
  refine callF_of (Tryz.radd u.z v.z (by have := hu.2.2; omega) (by have := hv.2.2; omega)) ?_
  (refine ev ?_; try exact ⟨⟩)
set_option maxHeartbeats 1000000 in
theorem Tryz.aadd {k l : Nat} (u v : V3) (hu : u.rd k) (hv : v.rd l) (hk : k ≤ 5000) (hl : l ≤ 5000) : Con Tryz.prog Tryz.L 73 [.agg u.L, .agg v.L] (.agg (u.add v).L) := by
 have e := Tryz.aeach 111 [.pt u.L, .pt v.L] (u.add v) rfl (Tryz.aaddC u v hu hv hk hl)
 refine rule73 Tryz.hL rfl rfl rfl ?_
 simp only [V3.L, G3.L, M3.L, V3.add, pc73, rs73, oU, oC, evX, evY, evZ, forall_const, implies_true, initE, stepF, D.clean, mvF, moF, tkF, shF, ariF, ciF, catF, scF, ebF, eqF, eqOk, eqPr, enF, notF, ngF, cvF, csF, csbF, lenF, lenSF, ixF, iaF, PX.slot, iaAF, faF, ldF, D.mem, stF, bxF, mkSF, boundF, fldF, ixAF, mmF2, D.plain, D.isPure, optAll, D.dull, callVF, splice, D.cells, D.one, sets, resT, D.flat, D.flat0, D.simple, Nat.reduceBNe, Nat.reduceLT, reduceIte, Nat.reduceEqDiff, Nat.reduceAdd, Nat.reduceMul, Nat.reduceSub, Nat.reduceLeDiff, Int.reduceToNat, Int.reduceLT, Int.reduceLE, Int.reduceEq, Int.reduceNeg, Int.reduceSub, Int.reduceAdd, Int.reduceMul, stG_own] at e ⊢
 repeat (refine ⟨by decide, ?_⟩)
 refine callF_of e ?_
 (refine ev ?_; try exact ⟨⟩)
 rfl
set_option maxHeartbeats 2000000 in
theorem Tryz.asubC {k l : Nat} (u v : V3) (hu : u.rd k) (hv : v.rd l) (hk : k ≤ 5000) (hl : l ≤ 5000) : Con Tryz.prog Tryz.L 98 [.int .i64 0, .pt u.L, .pt v.L] (.str (rt (u.x - v.x))) ∧ Con Tryz.prog Tryz.L 98 [.int .i64 1, .pt u.L, .pt v.L] (.str (rt (u.y - v.y))) ∧ Con Tryz.prog Tryz.L 98 [.int .i64 2, .pt u.L, .pt v.L] (.str (rt (u.z - v.z))) := by
 refine ⟨?_, ?_, ?_⟩
 ·refine rule98 Tryz.hL rfl rfl rfl ?_
  simp only [V3.L, G3.L, M3.L, pc98, rs98, oU, oC, evX, evY, evZ, forall_const, implies_true, initE, stepF, D.clean, mvF, moF, tkF, shF, ariF, ciF, catF, scF, ebF, eqF, eqOk, eqPr, enF, notF, ngF, cvF, csF, csbF, lenF, lenSF, ixF, iaF, PX.slot, iaAF, faF, ldF, D.mem, stF, bxF, mkSF, boundF, fldF, ixAF, mmF2, D.plain, D.isPure, optAll, D.dull, callVF, splice, D.cells, D.one, sets, resT, D.flat, D.flat0, D.simple, Nat.reduceBNe, Nat.reduceLT, reduceIte, Nat.reduceEqDiff, Nat.reduceAdd, Nat.reduceMul, Nat.reduceSub, Nat.reduceLeDiff, Int.reduceToNat, Int.reduceLT, Int.reduceLE, Int.reduceEq, Int.reduceNeg, Int.reduceSub, Int.reduceAdd, Int.reduceMul, stG_own]
  repeat (refine ⟨by decide, ?_⟩)
  refine callF_of (Tryz.rsub u.x v.x (by have := hu.1; omega) (by have := hv.1; omega)) ?_
  (refine ev ?_; try exact ⟨⟩)
 ·refine rule98 Tryz.hL rfl rfl rfl ?_
  simp only [V3.L, G3.L, M3.L, pc98, rs98, oU, oC, evX, evY, evZ, forall_const, implies_true, initE, stepF, D.clean, mvF, moF, tkF, shF, ariF, ciF, catF, scF, ebF, eqF, eqOk, eqPr, enF, notF, ngF, cvF, csF, csbF, lenF, lenSF, ixF, iaF, PX.slot, iaAF, faF, ldF, D.mem, stF, bxF, mkSF, boundF, fldF, ixAF, mmF2, D.plain, D.isPure, optAll, D.dull, callVF, splice, D.cells, D.one, sets, resT, D.flat, D.flat0, D.simple, Nat.reduceBNe, Nat.reduceLT, reduceIte, Nat.reduceEqDiff, Nat.reduceAdd, Nat.reduceMul, Nat.reduceSub, Nat.reduceLeDiff, Int.reduceToNat, Int.reduceLT, Int.reduceLE, Int.reduceEq, Int.reduceNeg, Int.reduceSub, Int.reduceAdd, Int.reduceMul, stG_own]
  repeat (refine ⟨by decide, ?_⟩)
  refine callF_of (Tryz.rsub u.y v.y (by have := hu.2.1; omega) (by have := hv.2.1; omega)) ?_
  (refine ev ?_; try exact ⟨⟩)
 ·refine rule98 Tryz.hL rfl rfl rfl ?_
  simp only [V3.L, G3.L, M3.L, pc98, rs98, oU, oC, evX, evY, evZ, forall_const, implies_true, initE, stepF, D.clean, mvF, moF, tkF, shF, ariF, ciF, catF, scF, ebF, eqF, eqOk, eqPr, enF, notF, ngF, cvF, csF, csbF, lenF, lenSF, ixF, iaF, PX.slot, iaAF, faF, ldF, D.mem, stF, bxF, mkSF, boundF, fldF, ixAF, mmF2, D.plain, D.isPure, optAll, D.dull, callVF, splice, D.cells, D.one, sets, resT, D.flat, D.flat0, D.simple, Nat.reduceBNe, Nat.reduceLT, reduceIte, Nat.reduceEqDiff, Nat.reduceAdd, Nat.reduceMul, Nat.reduceSub, Nat.reduceLeDiff, Int.reduceToNat, Int.reduceLT, Int.reduceLE, Int.reduceEq, Int.reduceNeg, Int.reduceSub, Int.reduceAdd, Int.reduceMul, stG_own]
  repeat (refine ⟨by decide, ?_⟩)
  refine callF_of (Tryz.rsub u.z v.z (by have := hu.2.2; omega) (by have := hv.2.2; omega)) ?_
  (refine ev ?_; try exact ⟨⟩)
set_option maxHeartbeats 1000000 in
theorem Tryz.asub {k l : Nat} (u v : V3) (hu : u.rd k) (hv : v.rd l) (hk : k ≤ 5000) (hl : l ≤ 5000) : Con Tryz.prog Tryz.L 59 [.agg u.L, .agg v.L] (.agg (u.sub v).L) := by
 have e := Tryz.aeach 98 [.pt u.L, .pt v.L] (u.sub v) rfl (Tryz.asubC u v hu hv hk hl)
 refine rule59 Tryz.hL rfl rfl rfl ?_
 simp only [V3.L, G3.L, M3.L, V3.sub, pc59, rs59, oU, oC, evX, evY, evZ, forall_const, implies_true, initE, stepF, D.clean, mvF, moF, tkF, shF, ariF, ciF, catF, scF, ebF, eqF, eqOk, eqPr, enF, notF, ngF, cvF, csF, csbF, lenF, lenSF, ixF, iaF, PX.slot, iaAF, faF, ldF, D.mem, stF, bxF, mkSF, boundF, fldF, ixAF, mmF2, D.plain, D.isPure, optAll, D.dull, callVF, splice, D.cells, D.one, sets, resT, D.flat, D.flat0, D.simple, Nat.reduceBNe, Nat.reduceLT, reduceIte, Nat.reduceEqDiff, Nat.reduceAdd, Nat.reduceMul, Nat.reduceSub, Nat.reduceLeDiff, Int.reduceToNat, Int.reduceLT, Int.reduceLE, Int.reduceEq, Int.reduceNeg, Int.reduceSub, Int.reduceAdd, Int.reduceMul, stG_own] at e ⊢
 repeat (refine ⟨by decide, ?_⟩)
 refine callF_of e ?_
 (refine ev ?_; try exact ⟨⟩)
 rfl
set_option maxHeartbeats 2000000 in
theorem Tryz.atimesC {k : Nat} (u : V3) (q : Rat) (hu : u.rd k) (hq : rd q ≤ 5000) (hk : k ≤ 5000) : Con Tryz.prog Tryz.L 114 [.int .i64 0, .pt u.L, .pt [.str (rt q)]] (.str (rt (u.x * q))) ∧ Con Tryz.prog Tryz.L 114 [.int .i64 1, .pt u.L, .pt [.str (rt q)]] (.str (rt (u.y * q))) ∧ Con Tryz.prog Tryz.L 114 [.int .i64 2, .pt u.L, .pt [.str (rt q)]] (.str (rt (u.z * q))) := by
 refine ⟨?_, ?_, ?_⟩
 ·refine rule114 Tryz.hL rfl rfl rfl ?_
  simp only [V3.L, G3.L, M3.L, pc114, rs114, oU, oC, evX, evY, evZ, forall_const, implies_true, initE, stepF, D.clean, mvF, moF, tkF, shF, ariF, ciF, catF, scF, ebF, eqF, eqOk, eqPr, enF, notF, ngF, cvF, csF, csbF, lenF, lenSF, ixF, iaF, PX.slot, iaAF, faF, ldF, D.mem, stF, bxF, mkSF, boundF, fldF, ixAF, mmF2, D.plain, D.isPure, optAll, D.dull, callVF, splice, D.cells, D.one, sets, resT, D.flat, D.flat0, D.simple, Nat.reduceBNe, Nat.reduceLT, reduceIte, Nat.reduceEqDiff, Nat.reduceAdd, Nat.reduceMul, Nat.reduceSub, Nat.reduceLeDiff, Int.reduceToNat, Int.reduceLT, Int.reduceLE, Int.reduceEq, Int.reduceNeg, Int.reduceSub, Int.reduceAdd, Int.reduceMul, stG_own]
  repeat (refine ⟨by decide, ?_⟩)
  refine callF_of (Tryz.rmul u.x q (by have := hu.1; omega) hq) ?_
  (refine ev ?_; try exact ⟨⟩)
 ·refine rule114 Tryz.hL rfl rfl rfl ?_
  simp only [V3.L, G3.L, M3.L, pc114, rs114, oU, oC, evX, evY, evZ, forall_const, implies_true, initE, stepF, D.clean, mvF, moF, tkF, shF, ariF, ciF, catF, scF, ebF, eqF, eqOk, eqPr, enF, notF, ngF, cvF, csF, csbF, lenF, lenSF, ixF, iaF, PX.slot, iaAF, faF, ldF, D.mem, stF, bxF, mkSF, boundF, fldF, ixAF, mmF2, D.plain, D.isPure, optAll, D.dull, callVF, splice, D.cells, D.one, sets, resT, D.flat, D.flat0, D.simple, Nat.reduceBNe, Nat.reduceLT, reduceIte, Nat.reduceEqDiff, Nat.reduceAdd, Nat.reduceMul, Nat.reduceSub, Nat.reduceLeDiff, Int.reduceToNat, Int.reduceLT, Int.reduceLE, Int.reduceEq, Int.reduceNeg, Int.reduceSub, Int.reduceAdd, Int.reduceMul, stG_own]
  repeat (refine ⟨by decide, ?_⟩)
  refine callF_of (Tryz.rmul u.y q (by have := hu.2.1; omega) hq) ?_
  (refine ev ?_; try exact ⟨⟩)
 ·refine rule114 Tryz.hL rfl rfl rfl ?_
  simp only [V3.L, G3.L, M3.L, pc114, rs114, oU, oC, evX, evY, evZ, forall_const, implies_true, initE, stepF, D.clean, mvF, moF, tkF, shF, ariF, ciF, catF, scF, ebF, eqF, eqOk, eqPr, enF, notF, ngF, cvF, csF, csbF, lenF, lenSF, ixF, iaF, PX.slot, iaAF, faF, ldF, D.mem, stF, bxF, mkSF, boundF, fldF, ixAF, mmF2, D.plain, D.isPure, optAll, D.dull, callVF, splice, D.cells, D.one, sets, resT, D.flat, D.flat0, D.simple, Nat.reduceBNe, Nat.reduceLT, reduceIte, Nat.reduceEqDiff, Nat.reduceAdd, Nat.reduceMul, Nat.reduceSub, Nat.reduceLeDiff, Int.reduceToNat, Int.reduceLT, Int.reduceLE, Int.reduceEq, Int.reduceNeg, Int.reduceSub, Int.reduceAdd, Int.reduceMul, stG_own]
  repeat (refine ⟨by decide, ?_⟩)
  refine callF_of (Tryz.rmul u.z q (by have := hu.2.2; omega) hq) ?_
  (refine ev ?_; try exact ⟨⟩)
set_option maxHeartbeats 1000000 in
theorem Tryz.atimes {k : Nat} (u : V3) (q : Rat) (hu : u.rd k) (hq : rd q ≤ 5000) (hk : k ≤ 5000) : Con Tryz.prog Tryz.L 77 [.agg u.L, .str (rt q)] (.agg (u.mul q).L) := by
 have e := Tryz.aeach 114 [.pt u.L, .pt [.str (rt q)]] (u.mul q) rfl (Tryz.atimesC u q hu hq hk)
 refine rule77 Tryz.hL rfl rfl rfl ?_
 simp only [V3.L, G3.L, M3.L, V3.mul, pc77, rs77, oU, oC, evX, evY, evZ, forall_const, implies_true, initE, stepF, D.clean, mvF, moF, tkF, shF, ariF, ciF, catF, scF, ebF, eqF, eqOk, eqPr, enF, notF, ngF, cvF, csF, csbF, lenF, lenSF, ixF, iaF, PX.slot, iaAF, faF, ldF, D.mem, stF, bxF, mkSF, boundF, fldF, ixAF, mmF2, D.plain, D.isPure, optAll, D.dull, callVF, splice, D.cells, D.one, sets, resT, D.flat, D.flat0, D.simple, Nat.reduceBNe, Nat.reduceLT, reduceIte, Nat.reduceEqDiff, Nat.reduceAdd, Nat.reduceMul, Nat.reduceSub, Nat.reduceLeDiff, Int.reduceToNat, Int.reduceLT, Int.reduceLE, Int.reduceEq, Int.reduceNeg, Int.reduceSub, Int.reduceAdd, Int.reduceMul, stG_own] at e ⊢
 repeat (refine ⟨by decide, ?_⟩)
 refine callF_of e ?_
 (refine ev ?_; try exact ⟨⟩)
 rfl
set_option maxHeartbeats 2000000 in
theorem Tryz.acolC0 (g : G3) : Con Tryz.prog Tryz.L 165 [.int .i64 0, .pt g.L, .pt [.int .i64 0]] (.str (rt (g.a.x))) ∧ Con Tryz.prog Tryz.L 165 [.int .i64 1, .pt g.L, .pt [.int .i64 0]] (.str (rt (g.b.x))) ∧ Con Tryz.prog Tryz.L 165 [.int .i64 2, .pt g.L, .pt [.int .i64 0]] (.str (rt (g.c.x))) := by
 refine ⟨?_, ?_, ?_⟩
 ·refine rule165 Tryz.hL rfl rfl rfl ?_
  simp only [V3.L, G3.L, M3.L, pc165, rs165, oU, oC, evX, evY, evZ, forall_const, implies_true, initE, stepF, D.clean, mvF, moF, tkF, shF, ariF, ciF, catF, scF, ebF, eqF, eqOk, eqPr, enF, notF, ngF, cvF, csF, csbF, lenF, lenSF, ixF, iaF, PX.slot, iaAF, faF, ldF, D.mem, stF, bxF, mkSF, boundF, fldF, ixAF, mmF2, D.plain, D.isPure, optAll, D.dull, callVF, splice, D.cells, D.one, sets, resT, D.flat, D.flat0, D.simple, Nat.reduceBNe, Nat.reduceLT, reduceIte, Nat.reduceEqDiff, Nat.reduceAdd, Nat.reduceMul, Nat.reduceSub, Nat.reduceLeDiff, Int.reduceToNat, Int.reduceLT, Int.reduceLE, Int.reduceEq, Int.reduceNeg, Int.reduceSub, Int.reduceAdd, Int.reduceMul, stG_own]
  first | decide | exact ⟨by decide, by decide⟩
 ·refine rule165 Tryz.hL rfl rfl rfl ?_
  simp only [V3.L, G3.L, M3.L, pc165, rs165, oU, oC, evX, evY, evZ, forall_const, implies_true, initE, stepF, D.clean, mvF, moF, tkF, shF, ariF, ciF, catF, scF, ebF, eqF, eqOk, eqPr, enF, notF, ngF, cvF, csF, csbF, lenF, lenSF, ixF, iaF, PX.slot, iaAF, faF, ldF, D.mem, stF, bxF, mkSF, boundF, fldF, ixAF, mmF2, D.plain, D.isPure, optAll, D.dull, callVF, splice, D.cells, D.one, sets, resT, D.flat, D.flat0, D.simple, Nat.reduceBNe, Nat.reduceLT, reduceIte, Nat.reduceEqDiff, Nat.reduceAdd, Nat.reduceMul, Nat.reduceSub, Nat.reduceLeDiff, Int.reduceToNat, Int.reduceLT, Int.reduceLE, Int.reduceEq, Int.reduceNeg, Int.reduceSub, Int.reduceAdd, Int.reduceMul, stG_own]
  first | decide | exact ⟨by decide, by decide⟩
 ·refine rule165 Tryz.hL rfl rfl rfl ?_
  simp only [V3.L, G3.L, M3.L, pc165, rs165, oU, oC, evX, evY, evZ, forall_const, implies_true, initE, stepF, D.clean, mvF, moF, tkF, shF, ariF, ciF, catF, scF, ebF, eqF, eqOk, eqPr, enF, notF, ngF, cvF, csF, csbF, lenF, lenSF, ixF, iaF, PX.slot, iaAF, faF, ldF, D.mem, stF, bxF, mkSF, boundF, fldF, ixAF, mmF2, D.plain, D.isPure, optAll, D.dull, callVF, splice, D.cells, D.one, sets, resT, D.flat, D.flat0, D.simple, Nat.reduceBNe, Nat.reduceLT, reduceIte, Nat.reduceEqDiff, Nat.reduceAdd, Nat.reduceMul, Nat.reduceSub, Nat.reduceLeDiff, Int.reduceToNat, Int.reduceLT, Int.reduceLE, Int.reduceEq, Int.reduceNeg, Int.reduceSub, Int.reduceAdd, Int.reduceMul, stG_own]
  first | decide | exact ⟨by decide, by decide⟩
set_option maxHeartbeats 2000000 in
theorem Tryz.acolC1 (g : G3) : Con Tryz.prog Tryz.L 165 [.int .i64 0, .pt g.L, .pt [.int .i64 1]] (.str (rt (g.a.y))) ∧ Con Tryz.prog Tryz.L 165 [.int .i64 1, .pt g.L, .pt [.int .i64 1]] (.str (rt (g.b.y))) ∧ Con Tryz.prog Tryz.L 165 [.int .i64 2, .pt g.L, .pt [.int .i64 1]] (.str (rt (g.c.y))) := by
 refine ⟨?_, ?_, ?_⟩
 ·refine rule165 Tryz.hL rfl rfl rfl ?_
  simp only [V3.L, G3.L, M3.L, pc165, rs165, oU, oC, evX, evY, evZ, forall_const, implies_true, initE, stepF, D.clean, mvF, moF, tkF, shF, ariF, ciF, catF, scF, ebF, eqF, eqOk, eqPr, enF, notF, ngF, cvF, csF, csbF, lenF, lenSF, ixF, iaF, PX.slot, iaAF, faF, ldF, D.mem, stF, bxF, mkSF, boundF, fldF, ixAF, mmF2, D.plain, D.isPure, optAll, D.dull, callVF, splice, D.cells, D.one, sets, resT, D.flat, D.flat0, D.simple, Nat.reduceBNe, Nat.reduceLT, reduceIte, Nat.reduceEqDiff, Nat.reduceAdd, Nat.reduceMul, Nat.reduceSub, Nat.reduceLeDiff, Int.reduceToNat, Int.reduceLT, Int.reduceLE, Int.reduceEq, Int.reduceNeg, Int.reduceSub, Int.reduceAdd, Int.reduceMul, stG_own]
  first | decide | exact ⟨by decide, by decide⟩
 ·refine rule165 Tryz.hL rfl rfl rfl ?_
  simp only [V3.L, G3.L, M3.L, pc165, rs165, oU, oC, evX, evY, evZ, forall_const, implies_true, initE, stepF, D.clean, mvF, moF, tkF, shF, ariF, ciF, catF, scF, ebF, eqF, eqOk, eqPr, enF, notF, ngF, cvF, csF, csbF, lenF, lenSF, ixF, iaF, PX.slot, iaAF, faF, ldF, D.mem, stF, bxF, mkSF, boundF, fldF, ixAF, mmF2, D.plain, D.isPure, optAll, D.dull, callVF, splice, D.cells, D.one, sets, resT, D.flat, D.flat0, D.simple, Nat.reduceBNe, Nat.reduceLT, reduceIte, Nat.reduceEqDiff, Nat.reduceAdd, Nat.reduceMul, Nat.reduceSub, Nat.reduceLeDiff, Int.reduceToNat, Int.reduceLT, Int.reduceLE, Int.reduceEq, Int.reduceNeg, Int.reduceSub, Int.reduceAdd, Int.reduceMul, stG_own]
  first | decide | exact ⟨by decide, by decide⟩
 ·refine rule165 Tryz.hL rfl rfl rfl ?_
  simp only [V3.L, G3.L, M3.L, pc165, rs165, oU, oC, evX, evY, evZ, forall_const, implies_true, initE, stepF, D.clean, mvF, moF, tkF, shF, ariF, ciF, catF, scF, ebF, eqF, eqOk, eqPr, enF, notF, ngF, cvF, csF, csbF, lenF, lenSF, ixF, iaF, PX.slot, iaAF, faF, ldF, D.mem, stF, bxF, mkSF, boundF, fldF, ixAF, mmF2, D.plain, D.isPure, optAll, D.dull, callVF, splice, D.cells, D.one, sets, resT, D.flat, D.flat0, D.simple, Nat.reduceBNe, Nat.reduceLT, reduceIte, Nat.reduceEqDiff, Nat.reduceAdd, Nat.reduceMul, Nat.reduceSub, Nat.reduceLeDiff, Int.reduceToNat, Int.reduceLT, Int.reduceLE, Int.reduceEq, Int.reduceNeg, Int.reduceSub, Int.reduceAdd, Int.reduceMul, stG_own]
  first | decide | exact ⟨by decide, by decide⟩
set_option maxHeartbeats 2000000 in
theorem Tryz.acolC2 (g : G3) : Con Tryz.prog Tryz.L 165 [.int .i64 0, .pt g.L, .pt [.int .i64 2]] (.str (rt (g.a.z))) ∧ Con Tryz.prog Tryz.L 165 [.int .i64 1, .pt g.L, .pt [.int .i64 2]] (.str (rt (g.b.z))) ∧ Con Tryz.prog Tryz.L 165 [.int .i64 2, .pt g.L, .pt [.int .i64 2]] (.str (rt (g.c.z))) := by
 refine ⟨?_, ?_, ?_⟩
 ·refine rule165 Tryz.hL rfl rfl rfl ?_
  simp only [V3.L, G3.L, M3.L, pc165, rs165, oU, oC, evX, evY, evZ, forall_const, implies_true, initE, stepF, D.clean, mvF, moF, tkF, shF, ariF, ciF, catF, scF, ebF, eqF, eqOk, eqPr, enF, notF, ngF, cvF, csF, csbF, lenF, lenSF, ixF, iaF, PX.slot, iaAF, faF, ldF, D.mem, stF, bxF, mkSF, boundF, fldF, ixAF, mmF2, D.plain, D.isPure, optAll, D.dull, callVF, splice, D.cells, D.one, sets, resT, D.flat, D.flat0, D.simple, Nat.reduceBNe, Nat.reduceLT, reduceIte, Nat.reduceEqDiff, Nat.reduceAdd, Nat.reduceMul, Nat.reduceSub, Nat.reduceLeDiff, Int.reduceToNat, Int.reduceLT, Int.reduceLE, Int.reduceEq, Int.reduceNeg, Int.reduceSub, Int.reduceAdd, Int.reduceMul, stG_own]
  first | decide | exact ⟨by decide, by decide⟩
 ·refine rule165 Tryz.hL rfl rfl rfl ?_
  simp only [V3.L, G3.L, M3.L, pc165, rs165, oU, oC, evX, evY, evZ, forall_const, implies_true, initE, stepF, D.clean, mvF, moF, tkF, shF, ariF, ciF, catF, scF, ebF, eqF, eqOk, eqPr, enF, notF, ngF, cvF, csF, csbF, lenF, lenSF, ixF, iaF, PX.slot, iaAF, faF, ldF, D.mem, stF, bxF, mkSF, boundF, fldF, ixAF, mmF2, D.plain, D.isPure, optAll, D.dull, callVF, splice, D.cells, D.one, sets, resT, D.flat, D.flat0, D.simple, Nat.reduceBNe, Nat.reduceLT, reduceIte, Nat.reduceEqDiff, Nat.reduceAdd, Nat.reduceMul, Nat.reduceSub, Nat.reduceLeDiff, Int.reduceToNat, Int.reduceLT, Int.reduceLE, Int.reduceEq, Int.reduceNeg, Int.reduceSub, Int.reduceAdd, Int.reduceMul, stG_own]
  first | decide | exact ⟨by decide, by decide⟩
 ·refine rule165 Tryz.hL rfl rfl rfl ?_
  simp only [V3.L, G3.L, M3.L, pc165, rs165, oU, oC, evX, evY, evZ, forall_const, implies_true, initE, stepF, D.clean, mvF, moF, tkF, shF, ariF, ciF, catF, scF, ebF, eqF, eqOk, eqPr, enF, notF, ngF, cvF, csF, csbF, lenF, lenSF, ixF, iaF, PX.slot, iaAF, faF, ldF, D.mem, stF, bxF, mkSF, boundF, fldF, ixAF, mmF2, D.plain, D.isPure, optAll, D.dull, callVF, splice, D.cells, D.one, sets, resT, D.flat, D.flat0, D.simple, Nat.reduceBNe, Nat.reduceLT, reduceIte, Nat.reduceEqDiff, Nat.reduceAdd, Nat.reduceMul, Nat.reduceSub, Nat.reduceLeDiff, Int.reduceToNat, Int.reduceLT, Int.reduceLE, Int.reduceEq, Int.reduceNeg, Int.reduceSub, Int.reduceAdd, Int.reduceMul, stG_own]
  first | decide | exact ⟨by decide, by decide⟩
set_option maxHeartbeats 1000000 in
theorem Tryz.acol0 (g : G3) : Con Tryz.prog Tryz.L 137 [.agg g.L, .int .i64 0] (.agg (g.col 0).L) := by
 have e := Tryz.aeach 165 [.pt g.L, .pt [.int .i64 0]] (g.col 0) rfl (Tryz.acolC0 g)
 refine rule137 Tryz.hL rfl rfl rfl ?_
 simp only [V3.L, G3.L, M3.L, G3.col, V3.at', pc137, rs137, oU, oC, evX, evY, evZ, forall_const, implies_true, initE, stepF, D.clean, mvF, moF, tkF, shF, ariF, ciF, catF, scF, ebF, eqF, eqOk, eqPr, enF, notF, ngF, cvF, csF, csbF, lenF, lenSF, ixF, iaF, PX.slot, iaAF, faF, ldF, D.mem, stF, bxF, mkSF, boundF, fldF, ixAF, mmF2, D.plain, D.isPure, optAll, D.dull, callVF, splice, D.cells, D.one, sets, resT, D.flat, D.flat0, D.simple, Nat.reduceBNe, Nat.reduceLT, reduceIte, Nat.reduceEqDiff, Nat.reduceAdd, Nat.reduceMul, Nat.reduceSub, Nat.reduceLeDiff, Int.reduceToNat, Int.reduceLT, Int.reduceLE, Int.reduceEq, Int.reduceNeg, Int.reduceSub, Int.reduceAdd, Int.reduceMul, stG_own] at e ⊢
 repeat (refine ⟨by decide, ?_⟩)
 refine callF_of e ?_
 (refine ev ?_; try exact ⟨⟩)
 rfl
set_option maxHeartbeats 1000000 in
theorem Tryz.acol1 (g : G3) : Con Tryz.prog Tryz.L 137 [.agg g.L, .int .i64 1] (.agg (g.col 1).L) := by
 have e := Tryz.aeach 165 [.pt g.L, .pt [.int .i64 1]] (g.col 1) rfl (Tryz.acolC1 g)
 refine rule137 Tryz.hL rfl rfl rfl ?_
 simp only [V3.L, G3.L, M3.L, G3.col, V3.at', pc137, rs137, oU, oC, evX, evY, evZ, forall_const, implies_true, initE, stepF, D.clean, mvF, moF, tkF, shF, ariF, ciF, catF, scF, ebF, eqF, eqOk, eqPr, enF, notF, ngF, cvF, csF, csbF, lenF, lenSF, ixF, iaF, PX.slot, iaAF, faF, ldF, D.mem, stF, bxF, mkSF, boundF, fldF, ixAF, mmF2, D.plain, D.isPure, optAll, D.dull, callVF, splice, D.cells, D.one, sets, resT, D.flat, D.flat0, D.simple, Nat.reduceBNe, Nat.reduceLT, reduceIte, Nat.reduceEqDiff, Nat.reduceAdd, Nat.reduceMul, Nat.reduceSub, Nat.reduceLeDiff, Int.reduceToNat, Int.reduceLT, Int.reduceLE, Int.reduceEq, Int.reduceNeg, Int.reduceSub, Int.reduceAdd, Int.reduceMul, stG_own] at e ⊢
 repeat (refine ⟨by decide, ?_⟩)
 refine callF_of e ?_
 (refine ev ?_; try exact ⟨⟩)
 rfl
set_option maxHeartbeats 1000000 in
theorem Tryz.acol2 (g : G3) : Con Tryz.prog Tryz.L 137 [.agg g.L, .int .i64 2] (.agg (g.col 2).L) := by
 have e := Tryz.aeach 165 [.pt g.L, .pt [.int .i64 2]] (g.col 2) rfl (Tryz.acolC2 g)
 refine rule137 Tryz.hL rfl rfl rfl ?_
 simp only [V3.L, G3.L, M3.L, G3.col, V3.at', pc137, rs137, oU, oC, evX, evY, evZ, forall_const, implies_true, initE, stepF, D.clean, mvF, moF, tkF, shF, ariF, ciF, catF, scF, ebF, eqF, eqOk, eqPr, enF, notF, ngF, cvF, csF, csbF, lenF, lenSF, ixF, iaF, PX.slot, iaAF, faF, ldF, D.mem, stF, bxF, mkSF, boundF, fldF, ixAF, mmF2, D.plain, D.isPure, optAll, D.dull, callVF, splice, D.cells, D.one, sets, resT, D.flat, D.flat0, D.simple, Nat.reduceBNe, Nat.reduceLT, reduceIte, Nat.reduceEqDiff, Nat.reduceAdd, Nat.reduceMul, Nat.reduceSub, Nat.reduceLeDiff, Int.reduceToNat, Int.reduceLT, Int.reduceLE, Int.reduceEq, Int.reduceNeg, Int.reduceSub, Int.reduceAdd, Int.reduceMul, stG_own] at e ⊢
 repeat (refine ⟨by decide, ?_⟩)
 refine callF_of e ?_
 (refine ev ?_; try exact ⟨⟩)
 rfl
set_option maxHeartbeats 1000000 in
theorem Tryz.aturned (g : G3) : Con Tryz.prog Tryz.L 93 [.agg g.L] (.agg g.tr.L) := by
 have c0 := Tryz.acol0 g
 have c1 := Tryz.acol1 g
 have c2 := Tryz.acol2 g
 refine rule93 Tryz.hL rfl rfl rfl ?_
 simp only [V3.L, G3.L, M3.L, pc93, rs93, oU, oC, evX, evY, evZ, forall_const, implies_true, initE, stepF, D.clean, mvF, moF, tkF, shF, ariF, ciF, catF, scF, ebF, eqF, eqOk, eqPr, enF, notF, ngF, cvF, csF, csbF, lenF, lenSF, ixF, iaF, PX.slot, iaAF, faF, ldF, D.mem, stF, bxF, mkSF, boundF, fldF, ixAF, mmF2, D.plain, D.isPure, optAll, D.dull, callVF, splice, D.cells, D.one, sets, resT, D.flat, D.flat0, D.simple, Nat.reduceBNe, Nat.reduceLT, reduceIte, Nat.reduceEqDiff, Nat.reduceAdd, Nat.reduceMul, Nat.reduceSub, Nat.reduceLeDiff, Int.reduceToNat, Int.reduceLT, Int.reduceLE, Int.reduceEq, Int.reduceNeg, Int.reduceSub, Int.reduceAdd, Int.reduceMul, stG_own] at c0 c1 c2 ⊢
 repeat (refine ⟨by decide, ?_⟩)
 refine callF_of c0 ?_
 (refine ev ?_; try exact ⟨⟩)
 repeat (refine ⟨by decide, ?_⟩)
 refine callF_of c1 ?_
 (refine ev ?_; try exact ⟨⟩)
 repeat (refine ⟨by decide, ?_⟩)
 refine callF_of c2 ?_
 (refine ev ?_; try exact ⟨⟩)
 rfl
set_option maxHeartbeats 2000000 in
theorem Tryz.aappC {k l : Nat} (g : G3) (v : V3) (hg : g.rd k) (hv : v.rd l) (hkl : k + l ≤ 1600) : Con Tryz.prog Tryz.L 110 [.int .i64 0, .pt g.L, .pt v.L] (.str (rt (g.a.dot v))) ∧ Con Tryz.prog Tryz.L 110 [.int .i64 1, .pt g.L, .pt v.L] (.str (rt (g.b.dot v))) ∧ Con Tryz.prog Tryz.L 110 [.int .i64 2, .pt g.L, .pt v.L] (.str (rt (g.c.dot v))) := by
 refine ⟨?_, ?_, ?_⟩
 ·refine rule110 Tryz.hL rfl rfl rfl ?_
  simp only [V3.L, G3.L, M3.L, pc110, rs110, oU, oC, evX, evY, evZ, forall_const, implies_true, initE, stepF, D.clean, mvF, moF, tkF, shF, ariF, ciF, catF, scF, ebF, eqF, eqOk, eqPr, enF, notF, ngF, cvF, csF, csbF, lenF, lenSF, ixF, iaF, PX.slot, iaAF, faF, ldF, D.mem, stF, bxF, mkSF, boundF, fldF, ixAF, mmF2, D.plain, D.isPure, optAll, D.dull, callVF, splice, D.cells, D.one, sets, resT, D.flat, D.flat0, D.simple, Nat.reduceBNe, Nat.reduceLT, reduceIte, Nat.reduceEqDiff, Nat.reduceAdd, Nat.reduceMul, Nat.reduceSub, Nat.reduceLeDiff, Int.reduceToNat, Int.reduceLT, Int.reduceLE, Int.reduceEq, Int.reduceNeg, Int.reduceSub, Int.reduceAdd, Int.reduceMul, stG_own]
  repeat (refine ⟨by decide, ?_⟩)
  refine callF_of (Tryz.adot g.a v hg.1 hv hkl) ?_
  (refine ev ?_; try exact ⟨⟩)
 ·refine rule110 Tryz.hL rfl rfl rfl ?_
  simp only [V3.L, G3.L, M3.L, pc110, rs110, oU, oC, evX, evY, evZ, forall_const, implies_true, initE, stepF, D.clean, mvF, moF, tkF, shF, ariF, ciF, catF, scF, ebF, eqF, eqOk, eqPr, enF, notF, ngF, cvF, csF, csbF, lenF, lenSF, ixF, iaF, PX.slot, iaAF, faF, ldF, D.mem, stF, bxF, mkSF, boundF, fldF, ixAF, mmF2, D.plain, D.isPure, optAll, D.dull, callVF, splice, D.cells, D.one, sets, resT, D.flat, D.flat0, D.simple, Nat.reduceBNe, Nat.reduceLT, reduceIte, Nat.reduceEqDiff, Nat.reduceAdd, Nat.reduceMul, Nat.reduceSub, Nat.reduceLeDiff, Int.reduceToNat, Int.reduceLT, Int.reduceLE, Int.reduceEq, Int.reduceNeg, Int.reduceSub, Int.reduceAdd, Int.reduceMul, stG_own]
  repeat (refine ⟨by decide, ?_⟩)
  refine callF_of (Tryz.adot g.b v hg.2.1 hv hkl) ?_
  (refine ev ?_; try exact ⟨⟩)
 ·refine rule110 Tryz.hL rfl rfl rfl ?_
  simp only [V3.L, G3.L, M3.L, pc110, rs110, oU, oC, evX, evY, evZ, forall_const, implies_true, initE, stepF, D.clean, mvF, moF, tkF, shF, ariF, ciF, catF, scF, ebF, eqF, eqOk, eqPr, enF, notF, ngF, cvF, csF, csbF, lenF, lenSF, ixF, iaF, PX.slot, iaAF, faF, ldF, D.mem, stF, bxF, mkSF, boundF, fldF, ixAF, mmF2, D.plain, D.isPure, optAll, D.dull, callVF, splice, D.cells, D.one, sets, resT, D.flat, D.flat0, D.simple, Nat.reduceBNe, Nat.reduceLT, reduceIte, Nat.reduceEqDiff, Nat.reduceAdd, Nat.reduceMul, Nat.reduceSub, Nat.reduceLeDiff, Int.reduceToNat, Int.reduceLT, Int.reduceLE, Int.reduceEq, Int.reduceNeg, Int.reduceSub, Int.reduceAdd, Int.reduceMul, stG_own]
  repeat (refine ⟨by decide, ?_⟩)
  refine callF_of (Tryz.adot g.c v hg.2.2 hv hkl) ?_
  (refine ev ?_; try exact ⟨⟩)
set_option maxHeartbeats 1000000 in
theorem Tryz.aapp {k l : Nat} (g : G3) (v : V3) (hg : g.rd k) (hv : v.rd l) (hkl : k + l ≤ 1600) : Con Tryz.prog Tryz.L 72 [.agg g.L, .agg v.L] (.agg (g.app v).L) := by
 have e := Tryz.aeach 110 [.pt g.L, .pt v.L] (g.app v) rfl (Tryz.aappC g v hg hv hkl)
 refine rule72 Tryz.hL rfl rfl rfl ?_
 simp only [V3.L, G3.L, M3.L, G3.app, pc72, rs72, oU, oC, evX, evY, evZ, forall_const, implies_true, initE, stepF, D.clean, mvF, moF, tkF, shF, ariF, ciF, catF, scF, ebF, eqF, eqOk, eqPr, enF, notF, ngF, cvF, csF, csbF, lenF, lenSF, ixF, iaF, PX.slot, iaAF, faF, ldF, D.mem, stF, bxF, mkSF, boundF, fldF, ixAF, mmF2, D.plain, D.isPure, optAll, D.dull, callVF, splice, D.cells, D.one, sets, resT, D.flat, D.flat0, D.simple, Nat.reduceBNe, Nat.reduceLT, reduceIte, Nat.reduceEqDiff, Nat.reduceAdd, Nat.reduceMul, Nat.reduceSub, Nat.reduceLeDiff, Int.reduceToNat, Int.reduceLT, Int.reduceLE, Int.reduceEq, Int.reduceNeg, Int.reduceSub, Int.reduceAdd, Int.reduceMul, stG_own] at e ⊢
 repeat (refine ⟨by decide, ?_⟩)
 refine callF_of e ?_
 (refine ev ?_; try exact ⟨⟩)
 rfl
set_option maxHeartbeats 1000000 in
theorem Tryz.aof (v : V3) : Con Tryz.prog Tryz.L 63 [.agg v.L] (.agg v.L) := by
 refine rule63 Tryz.hL rfl rfl rfl ?_
 simp only [V3.L, G3.L, M3.L, pc63, rs63, oU, oC, evX, evY, evZ, forall_const, implies_true, initE, stepF, D.clean, mvF, moF, tkF, shF, ariF, ciF, catF, scF, ebF, eqF, eqOk, eqPr, enF, notF, ngF, cvF, csF, csbF, lenF, lenSF, ixF, iaF, PX.slot, iaAF, faF, ldF, D.mem, stF, bxF, mkSF, boundF, fldF, ixAF, mmF2, D.plain, D.isPure, optAll, D.dull, callVF, splice, D.cells, D.one, sets, resT, D.flat, D.flat0, D.simple, Nat.reduceBNe, Nat.reduceLT, reduceIte, Nat.reduceEqDiff, Nat.reduceAdd, Nat.reduceMul, Nat.reduceSub, Nat.reduceLeDiff, Int.reduceToNat, Int.reduceLT, Int.reduceLE, Int.reduceEq, Int.reduceNeg, Int.reduceSub, Int.reduceAdd, Int.reduceMul, stG_own]
 repeat (refine ⟨by decide, ?_⟩)
 rfl
set_option maxHeartbeats 1000000 in
theorem Tryz.avector (v : V3) : Con Tryz.prog Tryz.L 66 [.agg v.L] (.agg v.L) := by
 refine rule66 Tryz.hL rfl rfl rfl ?_
 simp only [V3.L, G3.L, M3.L, pc66, rs66, oU, oC, evX, evY, evZ, forall_const, implies_true, initE, stepF, D.clean, mvF, moF, tkF, shF, ariF, ciF, catF, scF, ebF, eqF, eqOk, eqPr, enF, notF, ngF, cvF, csF, csbF, lenF, lenSF, ixF, iaF, PX.slot, iaAF, faF, ldF, D.mem, stF, bxF, mkSF, boundF, fldF, ixAF, mmF2, D.plain, D.isPure, optAll, D.dull, callVF, splice, D.cells, D.one, sets, resT, D.flat, D.flat0, D.simple, Nat.reduceBNe, Nat.reduceLT, reduceIte, Nat.reduceEqDiff, Nat.reduceAdd, Nat.reduceMul, Nat.reduceSub, Nat.reduceLeDiff, Int.reduceToNat, Int.reduceLT, Int.reduceLE, Int.reduceEq, Int.reduceNeg, Int.reduceSub, Int.reduceAdd, Int.reduceMul, stG_own]
 repeat (refine ⟨by decide, ?_⟩)
 rfl
set_option maxHeartbeats 1000000 in
theorem Tryz.arows (m : M3) : Con Tryz.prog Tryz.L 58 [.agg m.L] (.agg m.g.L) := by
 have a := Tryz.aof m.g.a
 have b := Tryz.aof m.g.b
 have c := Tryz.aof m.g.c
 refine rule58 Tryz.hL rfl rfl rfl ?_
 simp only [V3.L, G3.L, M3.L, pc58, rs58, oU, oC, evX, evY, evZ, forall_const, implies_true, initE, stepF, D.clean, mvF, moF, tkF, shF, ariF, ciF, catF, scF, ebF, eqF, eqOk, eqPr, enF, notF, ngF, cvF, csF, csbF, lenF, lenSF, ixF, iaF, PX.slot, iaAF, faF, ldF, D.mem, stF, bxF, mkSF, boundF, fldF, ixAF, mmF2, D.plain, D.isPure, optAll, D.dull, callVF, splice, D.cells, D.one, sets, resT, D.flat, D.flat0, D.simple, Nat.reduceBNe, Nat.reduceLT, reduceIte, Nat.reduceEqDiff, Nat.reduceAdd, Nat.reduceMul, Nat.reduceSub, Nat.reduceLeDiff, Int.reduceToNat, Int.reduceLT, Int.reduceLE, Int.reduceEq, Int.reduceNeg, Int.reduceSub, Int.reduceAdd, Int.reduceMul, stG_own] at a b c ⊢
 repeat (refine ⟨by decide, ?_⟩)
 refine callF_of a ?_
 (refine ev ?_; try exact ⟨⟩)
 repeat (refine ⟨by decide, ?_⟩)
 refine callF_of b ?_
 (refine ev ?_; try exact ⟨⟩)
 repeat (refine ⟨by decide, ?_⟩)
 refine callF_of c ?_
 (refine ev ?_; try exact ⟨⟩)
 rfl
end Go.Proofs

/-
 AFFINE: which numbers are right: vector.Check, affine.Check, first. Own work.
-/
namespace Go.Proofs
open Go Go.Pi Go.RowKit Go.Shelf Go.Ar Go.Mx

/-- three texts -/
structure T3 where
 x : List UInt8
 y : List UInt8
 z : List UInt8
namespace T3
def L (v : T3) : List D := [.str v.x, .str v.y, .str v.z]
def ok (v : T3) : Prop := okR v.x ∧ okR v.y ∧ okR v.z
def sz (v : T3) (k : Nat) : Prop := v.x.length ≤ k ∧ v.y.length ≤ k ∧ v.z.length ≤ k
end T3
def tsD (l : List T3) : List D := l.flatMap T3.L
theorem tsD_len : ∀ l : List T3, (tsD l).length = 3 * l.length
 | [] => rfl
 | v :: l => by
   have := tsD_len l
   simp only [tsD, List.flatMap_cons, List.length_append, List.length_cons] at this ⊢
   rw [this]; simp [T3.L]; omega
theorem tsD_drop : ∀ {l : List T3} {k : Nat} {v : T3}, l[k]? = some v → (tsD l).drop (k * 3) = v.L ++ (tsD l).drop (k * 3 + 3)
 | [], k, v, h => by simp at h
 | a :: l, 0, v, h => by
   simp at h; subst h
   simp [tsD, T3.L]
 | a :: l, k + 1, v, h => by
   have ih := tsD_drop (l := l) (k := k) (v := v) (by simpa using h)
   have e : ∀ n, (tsD (a :: l)).drop (n + 3) = (tsD l).drop n := fun n => by simp [tsD, T3.L, List.drop_succ_cons]
   rw [show (k + 1) * 3 = k * 3 + 3 by omega, e, ih, e]
theorem ldC_ts {l : List T3} {k t : Nat} {v : T3} {N : EP} {E : Env} (h : l[k]? = some v) : ldC true 3 (List.take 3 (List.drop (k * 3) (tsD l))) t N E = N (st1 E t (.agg v.L)) := by
 rw [tsD_drop h]
 simp [ldC, ofCells, T3.L]
theorem Tryz.tnumbers (v : T3) (h : v.sz 1000000) : Con Tryz.prog Tryz.L 146 [.sl 3 v.L] (.int .i64 (chk v.ok)) := by
 obtain ⟨hx, hy, hz⟩ := h
 have c1 := Tryz.rcheck v.x hx; have c2 := Tryz.rcheck v.y hy; have c3 := Tryz.rcheck v.z hz
 refine rule146 Tryz.hL rfl rfl rfl ?_
 simp only [T3.L, pc146, rs146, oU, oC, evX, evY, evZ, forall_const, implies_true, initE, stepF, D.clean, mvF, moF, tkF, shF, ariF, ciF, catF, scF, ebF, eqF, eqOk, eqPr, enF, notF, ngF, cvF, csF, csbF, lenF, lenSF, ixF, iaF, PX.slot, iaAF, faF, ldF, D.mem, stF, bxF, mkSF, boundF, fldF, ixAF, mmF2, D.plain, D.isPure, optAll, D.dull, callVF, splice, D.cells, D.one, sets, resT, D.flat, D.flat0, D.simple, Nat.reduceBNe, Nat.reduceLT, reduceIte, Nat.reduceEqDiff, Nat.reduceAdd, Nat.reduceMul, Nat.reduceSub, Nat.reduceLeDiff, Int.reduceToNat, Int.reduceLT, Int.reduceLE, Int.reduceEq, Int.reduceNeg, Int.reduceSub, Int.reduceAdd, Int.reduceMul, stG_own]
 refine loopF_of (fun E => ∃ i : Int, ((i = 0) ∨ (i = 1 ∧ okR v.x) ∨ (i = 2 ∧ okR v.x ∧ okR v.y) ∨ (i = 3 ∧ v.ok)) ∧ E = [(6, .sl 3 [.str v.x, .str v.y, .str v.z]), (7, .int .i64 3), (8, .int .i64 i)])
  (fun E => match lk E 8 with | .int _ i => (3 - i).toNat | _ => 0) ⟨_, .inl rfl, by simp⟩ ?_
 rintro _ ⟨i, hp, rfl⟩
 rcases hp with rfl | ⟨rfl, h1⟩ | ⟨rfl, h1, h2⟩ | ⟨rfl, h1⟩
 ·(refine ev ?_; try exact ⟨⟩)
  repeat (refine ⟨by decide, ?_⟩)
  refine callF_of c1 ?_
  (refine ev ?_; try exact ⟨⟩)
  refine ⟨fun h => ?_, fun h => ⟨_, .inr (.inl ⟨rfl, chk_0.1 (Classical.not_not.1 h)⟩), by simp⟩⟩
  have h : ¬okR v.x := fun h2 => h (chk_0.2 h2)
  rw [chk_f h, chk_f fun h2 : v.ok => h h2.1]
 ·(refine ev ?_; try exact ⟨⟩)
  repeat (refine ⟨by decide, ?_⟩)
  refine callF_of c2 ?_
  (refine ev ?_; try exact ⟨⟩)
  refine ⟨fun h => ?_, fun h => ⟨_, .inr (.inr (.inl ⟨rfl, h1, chk_0.1 (Classical.not_not.1 h)⟩)), by simp⟩⟩
  have h : ¬okR v.y := fun h2 => h (chk_0.2 h2)
  rw [chk_f h, chk_f fun h2 : v.ok => h h2.2.1]
 ·(refine ev ?_; try exact ⟨⟩)
  repeat (refine ⟨by decide, ?_⟩)
  refine callF_of c3 ?_
  (refine ev ?_; try exact ⟨⟩)
  refine ⟨fun h => ?_, fun h => ⟨_, .inr (.inr (.inr ⟨rfl, h1, h2, chk_0.1 (Classical.not_not.1 h)⟩)), by simp⟩⟩
  have h : ¬okR v.z := fun h2 => h (chk_0.2 h2)
  rw [chk_f h, chk_f fun h2 : v.ok => h h2.2.2]
 ·(refine ev ?_; try exact ⟨⟩)
  rw [chk_t h1]
theorem Tryz.tcheck (v : T3) (h : v.sz 1000000) : Con Tryz.prog Tryz.L 109 [.agg v.L] (.int .i64 (chk v.ok)) := by
 have hn := Tryz.tnumbers v h
 refine rule109 Tryz.hL rfl rfl rfl ?_
 simp only [T3.L, pc109, rs109, oU, oC, evX, evY, evZ, forall_const, implies_true, initE, stepF, D.clean, mvF, moF, tkF, shF, ariF, ciF, catF, scF, ebF, eqF, eqOk, eqPr, enF, notF, ngF, cvF, csF, csbF, lenF, lenSF, ixF, iaF, PX.slot, iaAF, faF, ldF, D.mem, stF, bxF, mkSF, boundF, fldF, ixAF, mmF2, D.plain, D.isPure, optAll, D.dull, callVF, splice, D.cells, D.one, sets, resT, D.flat, D.flat0, D.simple, Nat.reduceBNe, Nat.reduceLT, reduceIte, Nat.reduceEqDiff, Nat.reduceAdd, Nat.reduceMul, Nat.reduceSub, Nat.reduceLeDiff, Int.reduceToNat, Int.reduceLT, Int.reduceLE, Int.reduceEq, Int.reduceNeg, Int.reduceSub, Int.reduceAdd, Int.reduceMul, stG_own] at hn ⊢
 refine callF_of hn ?_
 (refine ev ?_; try exact ⟨⟩)
/-- the texts of a plane -/
def T3.okP (v : T3) (o : List UInt8) : Prop := v.ok ∧ okR o
theorem Tryz.tnumbers4 (v : T3) (o : List UInt8) (h : v.sz 1000000) (ho : o.length ≤ 1000000) : Con Tryz.prog Tryz.L 146 [.sl 4 [.str v.x, .str v.y, .str v.z, .str o]] (.int .i64 (chk (v.okP o))) := by
 obtain ⟨hx, hy, hz⟩ := h
 have c1 := Tryz.rcheck v.x hx; have c2 := Tryz.rcheck v.y hy; have c3 := Tryz.rcheck v.z hz; have c4 := Tryz.rcheck o ho
 refine rule146 Tryz.hL rfl rfl rfl ?_
 simp only [T3.L, pc146, rs146, oU, oC, evX, evY, evZ, forall_const, implies_true, initE, stepF, D.clean, mvF, moF, tkF, shF, ariF, ciF, catF, scF, ebF, eqF, eqOk, eqPr, enF, notF, ngF, cvF, csF, csbF, lenF, lenSF, ixF, iaF, PX.slot, iaAF, faF, ldF, D.mem, stF, bxF, mkSF, boundF, fldF, ixAF, mmF2, D.plain, D.isPure, optAll, D.dull, callVF, splice, D.cells, D.one, sets, resT, D.flat, D.flat0, D.simple, Nat.reduceBNe, Nat.reduceLT, reduceIte, Nat.reduceEqDiff, Nat.reduceAdd, Nat.reduceMul, Nat.reduceSub, Nat.reduceLeDiff, Int.reduceToNat, Int.reduceLT, Int.reduceLE, Int.reduceEq, Int.reduceNeg, Int.reduceSub, Int.reduceAdd, Int.reduceMul, stG_own]
 refine loopF_of (fun E => ∃ i : Int, ((i = 0) ∨ (i = 1 ∧ okR v.x) ∨ (i = 2 ∧ okR v.x ∧ okR v.y) ∨ (i = 3 ∧ v.ok) ∨ (i = 4 ∧ v.okP o)) ∧ E = [(6, .sl 4 [.str v.x, .str v.y, .str v.z, .str o]), (7, .int .i64 4), (8, .int .i64 i)])
  (fun E => match lk E 8 with | .int _ i => (4 - i).toNat | _ => 0) ⟨_, .inl rfl, by simp⟩ ?_
 rintro _ ⟨i, hp, rfl⟩
 rcases hp with rfl | ⟨rfl, h1⟩ | ⟨rfl, h1, h2⟩ | ⟨rfl, h1⟩ | ⟨rfl, h1⟩
 ·(refine ev ?_; try exact ⟨⟩)
  repeat (refine ⟨by decide, ?_⟩)
  refine callF_of c1 ?_
  (refine ev ?_; try exact ⟨⟩)
  refine ⟨fun h => ?_, fun h => ⟨_, .inr (.inl ⟨rfl, chk_0.1 (Classical.not_not.1 h)⟩), by simp⟩⟩
  have h : ¬okR v.x := fun h2 => h (chk_0.2 h2)
  rw [chk_f h, chk_f fun h2 : v.okP o => h h2.1.1]
 ·(refine ev ?_; try exact ⟨⟩)
  repeat (refine ⟨by decide, ?_⟩)
  refine callF_of c2 ?_
  (refine ev ?_; try exact ⟨⟩)
  refine ⟨fun h => ?_, fun h => ⟨_, .inr (.inr (.inl ⟨rfl, h1, chk_0.1 (Classical.not_not.1 h)⟩)), by simp⟩⟩
  have h : ¬okR v.y := fun h2 => h (chk_0.2 h2)
  rw [chk_f h, chk_f fun h2 : v.okP o => h h2.1.2.1]
 ·(refine ev ?_; try exact ⟨⟩)
  repeat (refine ⟨by decide, ?_⟩)
  refine callF_of c3 ?_
  (refine ev ?_; try exact ⟨⟩)
  refine ⟨fun h => ?_, fun h => ⟨_, .inr (.inr (.inr (.inl ⟨rfl, h1, h2, chk_0.1 (Classical.not_not.1 h)⟩))), by simp⟩⟩
  have h : ¬okR v.z := fun h2 => h (chk_0.2 h2)
  rw [chk_f h, chk_f fun h2 : v.okP o => h h2.1.2.2]
 ·(refine ev ?_; try exact ⟨⟩)
  repeat (refine ⟨by decide, ?_⟩)
  refine callF_of c4 ?_
  (refine ev ?_; try exact ⟨⟩)
  refine ⟨fun h => ?_, fun h => ⟨_, .inr (.inr (.inr (.inr ⟨rfl, h1, chk_0.1 (Classical.not_not.1 h)⟩))), by simp⟩⟩
  have h : ¬okR o := fun h2 => h (chk_0.2 h2)
  rw [chk_f h, chk_f fun h2 : v.okP o => h h2.2]
 ·(refine ev ?_; try exact ⟨⟩)
  rw [chk_t h1]
/-! lists of vectors -/
theorem Tryz.tfirstC (v : T3) (h : v.sz 1000000) : Con Tryz.prog Tryz.L 113 [.agg v.L] (.bool (dB (¬v.ok))) := by
 have hc := Tryz.tcheck v h
 refine rule113 Tryz.hL rfl rfl rfl ?_
 simp only [T3.L, pc113, rs113, oU, oC, evX, evY, evZ, forall_const, implies_true, initE, stepF, D.clean, mvF, moF, tkF, shF, ariF, ciF, catF, scF, ebF, eqF, eqOk, eqPr, enF, notF, ngF, cvF, csF, csbF, lenF, lenSF, ixF, iaF, PX.slot, iaAF, faF, ldF, D.mem, stF, bxF, mkSF, boundF, fldF, ixAF, mmF2, D.plain, D.isPure, optAll, D.dull, callVF, splice, D.cells, D.one, sets, resT, D.flat, D.flat0, D.simple, Nat.reduceBNe, Nat.reduceLT, reduceIte, Nat.reduceEqDiff, Nat.reduceAdd, Nat.reduceMul, Nat.reduceSub, Nat.reduceLeDiff, Int.reduceToNat, Int.reduceLT, Int.reduceLE, Int.reduceEq, Int.reduceNeg, Int.reduceSub, Int.reduceAdd, Int.reduceMul, stG_own] at hc ⊢
 refine callF_of hc ?_
 (refine ev ?_; try exact ⟨⟩)
 rw [show (¬chk v.ok = 0) = ¬v.ok from propext (not_congr chk_0)]
/-- the first place that is not right, from k on, or -1 -/
noncomputable def ixT : List T3 → Nat → Int
 | [], _ => -1
 | v :: l, k => @ite Int v.ok (Classical.propDecidable _) (ixT l (k + 1)) k
theorem ixT_cons (v : T3) (l : List T3) (k : Nat) : ixT (v :: l) k = @ite Int v.ok (Classical.propDecidable _) (ixT l (k + 1)) k := rfl
theorem ixT_all : ∀ {l : List T3} {k : Nat}, (0 ≤ ixT l k) ↔ ¬∀ v ∈ l, v.ok
 | [], k => by simp [ixT]
 | a :: l, k => by
   have ih := ixT_all (l := l) (k := k + 1)
   unfold ixT
   by_cases h : a.ok
   ·rw [if_pos h, ih]; simp [h]
   ·rw [if_neg h]
    exact ⟨fun _ h2 => h (h2 a (by simp)), fun _ => by omega⟩
theorem dropT {l : List T3} {k : Nat} {x : T3} (h : l[k]? = some x) : l.drop k = x :: l.drop (k + 1) := by
 obtain ⟨h1, rfl⟩ := List.getElem?_eq_some_iff.1 h
 exact List.drop_eq_getElem_cons h1
theorem Tryz.tindex (l : List T3) (hl : l.length ≤ 1000) (h : ∀ v ∈ l, v.sz 1000000) : Con Tryz.prog Tryz.L 147 [.sl l.length (tsD l), .clo 113 []] (.int .i64 (ixT l 0)) := by
 refine rule147 Tryz.hL rfl rfl rfl ?_
 (simp only [pc147, rs147, oU, oC]; refine ev ?_; try exact ⟨⟩)
 refine loopF_of (fun E => ∃ k : Nat, k ≤ l.length ∧ ixT l 0 = ixT (l.drop k) k ∧ E = [(0, .sl l.length (tsD l)), (1, .clo 113 []), (7, .int .i64 l.length), (8, .int .i64 k)])
  (fun E => match lk E 8 with | .int _ i => l.length - i.toNat | _ => 0) ⟨0, Nat.zero_le _, rfl, rfl⟩ ?_
 rintro _ ⟨k, hk, hi, rfl⟩
 (refine ev ?_; try exact ⟨⟩)
 refine ⟨fun h3 => ?_, fun h3 => ?_⟩
 ·have hkl : k < l.length := by omega
  have hv : l[k]? = some l[k] := List.getElem?_eq_getElem hkl
  have hm := List.getElem_mem hkl
  generalize l[k] = v at hv hm
  have ht := tsD_len l
  rw [dropT hv, ixT_cons] at hi
  refine ⟨⟨by omega, by omega, by omega⟩, ?_⟩
  rw [ldC_ts hv]
  simp only [T3.L, evX, evY, evZ, forall_const, implies_true, initE, stepF, D.clean, mvF, moF, tkF, shF, ariF, ciF, catF, scF, ebF, eqF, eqOk, eqPr, enF, notF, ngF, cvF, csF, csbF, lenF, lenSF, ixF, iaF, PX.slot, iaAF, faF, ldF, D.mem, stF, bxF, mkSF, boundF, fldF, ixAF, mmF2, D.plain, D.isPure, optAll, D.dull, callVF, splice, D.cells, D.one, sets, resT, D.flat, D.flat0, D.simple, Nat.reduceBNe, Nat.reduceLT, reduceIte, Nat.reduceEqDiff, Nat.reduceAdd, Nat.reduceMul, Nat.reduceSub, Nat.reduceLeDiff, Int.reduceToNat, Int.reduceLT, Int.reduceLE, Int.reduceEq, Int.reduceNeg, Int.reduceSub, Int.reduceAdd, Int.reduceMul, stG_own]
  refine callF_of (Tryz.tfirstC v (h v hm)) ?_
  (refine ev ?_; try exact ⟨⟩)
  refine ⟨fun h4 => ?_, fun h4 => ?_⟩
  ·rw [if_neg h4] at hi
   rw [hi]
  ·rw [if_pos (Classical.not_not.1 h4)] at hi
   exact ⟨by omega, ⟨k + 1, by omega, hi, by simp⟩, by omega⟩
 ·rw [List.drop_eq_nil_of_le (by omega)] at hi
  rw [hi]; rfl
theorem Tryz.tfirst (l : List T3) (hl : l.length ≤ 1000) (h : ∀ v ∈ l, v.sz 1000000) : Con Tryz.prog Tryz.L 74 [.sl l.length (tsD l)] (.int .i64 (chk (∀ v ∈ l, v.ok))) := by
 have h1 := Tryz.tindex l hl h
 have h2 : Con Tryz.prog Tryz.L 112 [.sl l.length (tsD l), .clo 113 []] (.bool (dB (0 ≤ ixT l 0))) := by
  refine rule112 Tryz.hL rfl rfl rfl ?_
  (simp only [pc112, rs112, oU, oC]; refine ev ?_; try exact ⟨⟩)
  refine callF_of h1 ?_
  (refine ev ?_; try exact ⟨⟩)
 refine rule74 Tryz.hL rfl rfl rfl ?_
 (simp only [pc74, rs74, oU, oC]; refine ev ?_; try exact ⟨⟩)
 refine callF_of h2 ?_
 (refine ev ?_; try exact ⟨⟩)
 refine ⟨fun h3 => by rw [chk_f (ixT_all.1 h3)], fun h3 => by rw [chk_t (Classical.not_not.1 fun h4 => h3 (ixT_all.2 h4))]⟩
/-- the texts of a map -/
structure TM where
 a : T3
 b : T3
 c : T3
 s : T3
namespace TM
def L (m : TM) : List D := [.str m.a.x, .str m.a.y, .str m.a.z, .str m.b.x, .str m.b.y, .str m.b.z, .str m.c.x, .str m.c.y, .str m.c.z, .str m.s.x, .str m.s.y, .str m.s.z]
def ok (m : TM) : Prop := m.a.ok ∧ m.b.ok ∧ m.c.ok ∧ m.s.ok
def sz (m : TM) (k : Nat) : Prop := m.a.sz k ∧ m.b.sz k ∧ m.c.sz k ∧ m.s.sz k
end TM
theorem all4 {p : T3 → Prop} {a b c d : T3} : (∀ v ∈ [a, b, c, d], p v) ↔ p a ∧ p b ∧ p c ∧ p d := by simp
theorem all2 {p : T3 → Prop} {a b : T3} : (∀ v ∈ [a, b], p v) ↔ p a ∧ p b := by simp
theorem all1 {p : T3 → Prop} {a : T3} : (∀ v ∈ [a], p v) ↔ p a := by simp
theorem Tryz.acheck (m : TM) (h : m.sz 1000000) : Con Tryz.prog Tryz.L 54 [.agg m.L] (.int .i64 (chk m.ok)) := by
 have hf := Tryz.tfirst [m.a, m.b, m.c, m.s] (by simp) (all4.2 h)
 rw [show (∀ v ∈ [m.a, m.b, m.c, m.s], v.ok) = m.ok from propext all4] at hf
 refine rule54 Tryz.hL rfl rfl rfl ?_
 simp only [TM.L, pc54, rs54, oU, oC, evX, evY, evZ, forall_const, implies_true, initE, stepF, D.clean, mvF, moF, tkF, shF, ariF, ciF, catF, scF, ebF, eqF, eqOk, eqPr, enF, notF, ngF, cvF, csF, csbF, lenF, lenSF, ixF, iaF, PX.slot, iaAF, faF, ldF, D.mem, stF, bxF, mkSF, boundF, fldF, ixAF, mmF2, D.plain, D.isPure, optAll, D.dull, callVF, splice, D.cells, D.one, sets, resT, D.flat, D.flat0, D.simple, Nat.reduceBNe, Nat.reduceLT, reduceIte, Nat.reduceEqDiff, Nat.reduceAdd, Nat.reduceMul, Nat.reduceSub, Nat.reduceLeDiff, Int.reduceToNat, Int.reduceLT, Int.reduceLE, Int.reduceEq, Int.reduceNeg, Int.reduceSub, Int.reduceAdd, Int.reduceMul, stG_own]
 repeat (refine ⟨by decide, ?_⟩)
 refine callF_of hf ?_
 (refine ev ?_; try exact ⟨⟩)
end Go.Proofs

/-
 AFFINE: the functions of the package affine for right numbers, printed by tools/aff3.py. Own work.
-/
namespace Go.Proofs
open Go Go.Pi Go.RowKit Go.Shelf Go.Ar Go.Mx

def M3.rd (k : Nat) (m : M3) : Prop := m.g.rd k ∧ m.s.rd k
theorem G3.rd_mono {k l : Nat} {g : G3} (h : g.rd k) (h' : k ≤ l) : g.rd l := ⟨V3.rd_mono h.1 h', V3.rd_mono h.2.1 h', V3.rd_mono h.2.2 h'⟩
theorem M3.rd_mono {k l : Nat} {m : M3} (h : m.rd k) (h' : k ≤ l) : m.rd l := ⟨G3.rd_mono h.1 h', V3.rd_mono h.2 h'⟩
def V3.t (v : V3) : T3 := ⟨rt v.x, rt v.y, rt v.z⟩
def M3.t (m : M3) : TM := ⟨m.g.a.t, m.g.b.t, m.g.c.t, m.s.t⟩
theorem V3.t_ok (v : V3) : v.t.ok ↔ v.rd 200 := by
 unfold T3.ok V3.rd V3.t
 rw [okR_rt, okR_rt, okR_rt]
theorem M3.t_ok (m : M3) : m.t.ok ↔ m.rd 200 := by
 unfold TM.ok M3.rd G3.rd M3.t
 rw [V3.t_ok, V3.t_ok, V3.t_ok, V3.t_ok]
 exact ⟨fun h => ⟨⟨h.1, h.2.1, h.2.2.1⟩, h.2.2.2⟩, fun h => ⟨h.1.1, h.1.2.1, h.1.2.2, h.2⟩⟩
theorem V3.t_sz {k : Nat} {v : V3} (h : v.rd k) (hk : k ≤ 1000) : v.t.sz 1000000 :=
 ⟨by have := rt_len v.x; have := h.1; show (rt v.x).length ≤ _; omega, by have := rt_len v.y; have := h.2.1; show (rt v.y).length ≤ _; omega, by have := rt_len v.z; have := h.2.2; show (rt v.z).length ≤ _; omega⟩
theorem M3.t_sz {k : Nat} {m : M3} (h : m.rd k) (hk : k ≤ 1000) : m.t.sz 1000000 := ⟨V3.t_sz h.1.1 hk, V3.t_sz h.1.2.1 hk, V3.t_sz h.1.2.2 hk, V3.t_sz h.2 hk⟩
theorem Tryz.avcheck (v : V3) (h : v.rd 200) : Con Tryz.prog Tryz.L 109 [.agg v.L] (.int .i64 0) := by
 have := Tryz.tcheck v.t (V3.t_sz h (by decide))
 rw [chk_t ((V3.t_ok v).2 h)] at this
 exact this
theorem Tryz.amcheck (m : M3) (h : m.rd 200) : Con Tryz.prog Tryz.L 54 [.agg m.L] (.int .i64 0) := by
 have := Tryz.acheck m.t (M3.t_sz h (by decide))
 rw [chk_t ((M3.t_ok m).2 h)] at this
 exact this
theorem rd_inv {k : Nat} {q : Rat} (h : rd q ≤ k) (h0 : q ≠ 0) : rd (1 / q) ≤ k + 1 := by
 obtain ⟨u, d, h1, h2, h3, h4⟩ := nbk h
 have hu : u ≠ 0 := fun e => by
  rw [e] at h4
  rcases Rat.mul_eq_zero.1 (h4.trans (by rfl : ((0 : Int) : Rat) = 0)) with h | h
  ·exact h0 h
  ·have : d = 0 := by exact_mod_cast h
   omega
 have hi := Rat.mul_inv_cancel _ h0
 have key : NB k k (1 / q) := by
  rcases Int.lt_or_le u 0 with hn | hp
  ·refine ⟨-(d : Int), u.natAbs, by omega, h3, by omega, ?_⟩
   have e3 : ((u.natAbs : Nat) : Rat) = -(u : Rat) := by
    rw [← Rat.intCast_neg, ← Rat.intCast_natCast]; congr 1; omega
   rw [e3, Rat.div_def, Rat.intCast_neg, Rat.intCast_natCast, ← h4]
   generalize q⁻¹ = z at *
   grind
  ·refine ⟨(d : Int), u.natAbs, by omega, h3, by omega, ?_⟩
   have e3 : ((u.natAbs : Nat) : Rat) = (u : Rat) := by
    rw [← Rat.intCast_natCast]; congr 1; omega
   rw [e3, Rat.div_def, Rat.intCast_natCast, ← h4]
   generalize q⁻¹ = z at *
   grind
 have := rd_nb key
 omega
theorem G3.rd_col {k : Nat} {g : G3} (h : g.rd k) (i : Nat) : (g.col i).rd k := ⟨V3.rd_at h.1 i, V3.rd_at h.2.1 i, V3.rd_at h.2.2 i⟩
theorem G3.rd_tr {k : Nat} {g : G3} (h : g.rd k) : g.tr.rd k := ⟨G3.rd_col h 0, G3.rd_col h 1, G3.rd_col h 2⟩
theorem G3.rd_app {k l : Nat} {g : G3} {v : V3} (h : g.rd k) (h' : v.rd l) : (g.app v).rd (3 * (k + l + 1) + 4) := ⟨V3.rd_dot h.1 h', V3.rd_dot h.2.1 h', V3.rd_dot h.2.2 h'⟩
theorem V3.rd_mulq {k l : Nat} {v : V3} {q : Rat} (h : v.rd k) (h' : Go.Ar.rd q ≤ l) : (v.mul q).rd (k + l + 1) := ⟨rd_mul h.1 h', rd_mul h.2.1 h', rd_mul h.2.2 h'⟩
def G3.one : G3 := ⟨⟨1, 0, 0⟩, ⟨0, 1, 0⟩, ⟨0, 0, 1⟩⟩
theorem rt1 : rt 1 = [49] := rt_one.2 rfl
theorem rt0 : rt 0 = [48] := rt_zero.2 rfl
set_option maxHeartbeats 2000000 in
theorem Tryz.amade (g : G3) (s : V3) (hg : g.rd 200) (hs : s.rd 200) : Con Tryz.prog Tryz.L 75 [.agg g.L, .agg s.L] (.tup [.agg (M3.mk g s).L, .int .i64 0]) := by
 have va := Tryz.avector g.a
 have vb := Tryz.avector g.b
 have vc := Tryz.avector g.c
 have vs := Tryz.avector s
 have ck := Tryz.amcheck ⟨g, s⟩ ⟨hg, hs⟩
 refine rule75 Tryz.hL rfl rfl rfl ?_
 simp only [V3.L, G3.L, M3.L, pc75, rs75, oU, oC, evX, evY, evZ, forall_const, implies_true, initE, stepF, D.clean, mvF, moF, tkF, shF, ariF, ciF, catF, scF, ebF, eqF, eqOk, eqPr, enF, notF, ngF, cvF, csF, csbF, lenF, lenSF, ixF, iaF, PX.slot, iaAF, faF, ldF, D.mem, stF, bxF, mkSF, boundF, fldF, ixAF, mmF2, D.plain, D.isPure, optAll, D.dull, callVF, splice, D.cells, D.one, sets, resT, D.flat, D.flat0, D.simple, Nat.reduceBNe, Nat.reduceLT, reduceIte, Nat.reduceEqDiff, Nat.reduceAdd, Nat.reduceMul, Nat.reduceSub, Nat.reduceLeDiff, Int.reduceToNat, Int.reduceLT, Int.reduceLE, Int.reduceEq, Int.reduceNeg, Int.reduceSub, Int.reduceAdd, Int.reduceMul, stG_own] at va vb vc vs ck ⊢
 repeat (refine ⟨by decide, ?_⟩)
 refine callF_of va ?_
 (refine ev ?_; try exact ⟨⟩)
 repeat (refine ⟨by decide, ?_⟩)
 refine callF_of vb ?_
 (refine ev ?_; try exact ⟨⟩)
 repeat (refine ⟨by decide, ?_⟩)
 refine callF_of vc ?_
 (refine ev ?_; try exact ⟨⟩)
 repeat (refine ⟨by decide, ?_⟩)
 refine callF_of vs ?_
 (refine ev ?_; try exact ⟨⟩)
 repeat (refine ⟨by decide, ?_⟩)
 refine callF_of ck ?_
 (refine ev ?_; try exact ⟨⟩)
 all_goals rfl
set_option maxHeartbeats 2000000 in
theorem Tryz.aplace (v : V3) (hv : v.rd 200) : Con Tryz.prog Tryz.L 67 [.agg v.L] (.tup [.agg v.L, .int .i64 0]) := by
 have vv := Tryz.avector v
 have ck := Tryz.avcheck v hv
 refine rule67 Tryz.hL rfl rfl rfl ?_
 simp only [V3.L, G3.L, M3.L, pc67, rs67, oU, oC, evX, evY, evZ, forall_const, implies_true, initE, stepF, D.clean, mvF, moF, tkF, shF, ariF, ciF, catF, scF, ebF, eqF, eqOk, eqPr, enF, notF, ngF, cvF, csF, csbF, lenF, lenSF, ixF, iaF, PX.slot, iaAF, faF, ldF, D.mem, stF, bxF, mkSF, boundF, fldF, ixAF, mmF2, D.plain, D.isPure, optAll, D.dull, callVF, splice, D.cells, D.one, sets, resT, D.flat, D.flat0, D.simple, Nat.reduceBNe, Nat.reduceLT, reduceIte, Nat.reduceEqDiff, Nat.reduceAdd, Nat.reduceMul, Nat.reduceSub, Nat.reduceLeDiff, Int.reduceToNat, Int.reduceLT, Int.reduceLE, Int.reduceEq, Int.reduceNeg, Int.reduceSub, Int.reduceAdd, Int.reduceMul, stG_own] at vv ck ⊢
 repeat (refine ⟨by decide, ?_⟩)
 refine callF_of vv ?_
 (refine ev ?_; try exact ⟨⟩)
 repeat (refine ⟨by decide, ?_⟩)
 refine callF_of ck ?_
 (refine ev ?_; try exact ⟨⟩)
 all_goals rfl
set_option maxHeartbeats 2000000 in
theorem Tryz.aunit  : Con Tryz.prog Tryz.L 60 [] (.agg G3.one.L) := by
 refine rule60 Tryz.hL rfl rfl rfl ?_
 simp only [V3.L, G3.L, M3.L, G3.one, rt1, rt0, pc60, rs60, oU, oC, evX, evY, evZ, forall_const, implies_true, initE, stepF, D.clean, mvF, moF, tkF, shF, ariF, ciF, catF, scF, ebF, eqF, eqOk, eqPr, enF, notF, ngF, cvF, csF, csbF, lenF, lenSF, ixF, iaF, PX.slot, iaAF, faF, ldF, D.mem, stF, bxF, mkSF, boundF, fldF, ixAF, mmF2, D.plain, D.isPure, optAll, D.dull, callVF, splice, D.cells, D.one, sets, resT, D.flat, D.flat0, D.simple, Nat.reduceBNe, Nat.reduceLT, reduceIte, Nat.reduceEqDiff, Nat.reduceAdd, Nat.reduceMul, Nat.reduceSub, Nat.reduceLeDiff, Int.reduceToNat, Int.reduceLT, Int.reduceLE, Int.reduceEq, Int.reduceNeg, Int.reduceSub, Int.reduceAdd, Int.reduceMul, stG_own]
 repeat (refine ⟨by decide, ?_⟩)
 all_goals rfl
theorem G3.rd_one : G3.one.rd 1 := ⟨⟨by decide +kernel, by decide +kernel, by decide +kernel⟩, ⟨by decide +kernel, by decide +kernel, by decide +kernel⟩, ⟨by decide +kernel, by decide +kernel, by decide +kernel⟩⟩
theorem V3.rd_zero : V3.zero.rd 1 := ⟨by decide +kernel, by decide +kernel, by decide +kernel⟩
set_option maxHeartbeats 2000000 in
theorem Tryz.acheckWith (m : M3) (v : V3) (hm : m.rd 200) (hv : v.rd 200) : Con Tryz.prog Tryz.L 71 [.agg m.L, .agg v.L] (.int .i64 0) := by
 have ck := Tryz.amcheck m hm
 have fi := Tryz.tfirst [v.t] (by simp) (all1.2 (V3.t_sz hv (by decide)))
 rw [chk_t (all1.2 ((V3.t_ok v).2 hv))] at fi
 have fi : Con Tryz.prog Tryz.L 74 [.sl 1 v.L] (.int .i64 0) := fi
 refine rule71 Tryz.hL rfl rfl rfl ?_
 simp only [V3.L, G3.L, M3.L, pc71, rs71, oU, oC, evX, evY, evZ, forall_const, implies_true, initE, stepF, D.clean, mvF, moF, tkF, shF, ariF, ciF, catF, scF, ebF, eqF, eqOk, eqPr, enF, notF, ngF, cvF, csF, csbF, lenF, lenSF, ixF, iaF, PX.slot, iaAF, faF, ldF, D.mem, stF, bxF, mkSF, boundF, fldF, ixAF, mmF2, D.plain, D.isPure, optAll, D.dull, callVF, splice, D.cells, D.one, sets, resT, D.flat, D.flat0, D.simple, Nat.reduceBNe, Nat.reduceLT, reduceIte, Nat.reduceEqDiff, Nat.reduceAdd, Nat.reduceMul, Nat.reduceSub, Nat.reduceLeDiff, Int.reduceToNat, Int.reduceLT, Int.reduceLE, Int.reduceEq, Int.reduceNeg, Int.reduceSub, Int.reduceAdd, Int.reduceMul, stG_own] at ck fi ⊢
 repeat (refine ⟨by decide, ?_⟩)
 refine callF_of ck ?_
 (refine ev ?_; try exact ⟨⟩)
 repeat (refine ⟨by decide, ?_⟩)
 refine callF_of fi ?_
 (refine ev ?_; try exact ⟨⟩)
 all_goals rfl
set_option maxHeartbeats 2000000 in
theorem Tryz.aApply (m : M3) (v : V3) (hm : m.rd 100) (hv : v.rd 100) (hr : ((m.g.app v).add m.s).rd 200) : Con Tryz.prog Tryz.L 20 [.agg m.L, .agg v.L] (.tup [.agg ((m.g.app v).add m.s).L, .int .i64 0]) := by
 have ck := Tryz.acheckWith m v (M3.rd_mono hm (by decide)) (V3.rd_mono hv (by decide))
 have ro := Tryz.arows m
 have o1 := Tryz.aof v
 have ap := Tryz.aapp m.g v hm.1 hv (by decide)
 have o2 := Tryz.aof m.s
 have ad := Tryz.aadd (m.g.app v) m.s (G3.rd_app hm.1 hv) hm.2 (by decide) (by decide)
 have pl := Tryz.aplace ((m.g.app v).add m.s) hr
 refine rule20 Tryz.hL rfl rfl rfl ?_
 simp only [V3.L, G3.L, M3.L, pc20, rs20, oU, oC, evX, evY, evZ, forall_const, implies_true, initE, stepF, D.clean, mvF, moF, tkF, shF, ariF, ciF, catF, scF, ebF, eqF, eqOk, eqPr, enF, notF, ngF, cvF, csF, csbF, lenF, lenSF, ixF, iaF, PX.slot, iaAF, faF, ldF, D.mem, stF, bxF, mkSF, boundF, fldF, ixAF, mmF2, D.plain, D.isPure, optAll, D.dull, callVF, splice, D.cells, D.one, sets, resT, D.flat, D.flat0, D.simple, Nat.reduceBNe, Nat.reduceLT, reduceIte, Nat.reduceEqDiff, Nat.reduceAdd, Nat.reduceMul, Nat.reduceSub, Nat.reduceLeDiff, Int.reduceToNat, Int.reduceLT, Int.reduceLE, Int.reduceEq, Int.reduceNeg, Int.reduceSub, Int.reduceAdd, Int.reduceMul, stG_own] at ck ro o1 ap o2 ad pl ⊢
 repeat (refine ⟨by decide, ?_⟩)
 refine callF_of ck ?_
 (refine ev ?_; try exact ⟨⟩)
 repeat (refine ⟨by decide, ?_⟩)
 refine callF_of ro ?_
 (refine ev ?_; try exact ⟨⟩)
 repeat (refine ⟨by decide, ?_⟩)
 refine callF_of o1 ?_
 (refine ev ?_; try exact ⟨⟩)
 repeat (refine ⟨by decide, ?_⟩)
 refine callF_of ap ?_
 (refine ev ?_; try exact ⟨⟩)
 repeat (refine ⟨by decide, ?_⟩)
 refine callF_of o2 ?_
 (refine ev ?_; try exact ⟨⟩)
 repeat (refine ⟨by decide, ?_⟩)
 refine callF_of ad ?_
 (refine ev ?_; try exact ⟨⟩)
 repeat (refine ⟨by decide, ?_⟩)
 refine callF_of pl ?_
 (refine ev ?_; try exact ⟨⟩)
 all_goals rfl
end Go.Proofs

/-
 AFFINE: planes (CheckPlane, pulled, Pull, Push), printed by tools/aff4.py. Own work.
-/
namespace Go.Proofs
open Go Go.Pi Go.RowKit Go.Shelf Go.Ar Go.Mx

/-- a plane -/
def pL (v : V3) (o : Rat) : List D := [.str (rt v.x), .str (rt v.y), .str (rt v.z), .str (rt o)]
def V3.isZ (v : V3) : Prop := v.x = 0 ∧ v.y = 0 ∧ v.z = 0
theorem Tryz.avzero (v : V3) : Con Tryz.prog Tryz.L 164 [.agg v.L] (.bool (dB v.isZ)) := by
 refine rule164 Tryz.hL rfl rfl rfl ?_
 simp only [V3.L, pc164, rs164, oU, oC, evX, evY, evZ, forall_const, implies_true, initE, stepF, D.clean, mvF, moF, tkF, shF, ariF, ciF, catF, scF, ebF, eqF, eqOk, eqPr, enF, notF, ngF, cvF, csF, csbF, lenF, lenSF, ixF, iaF, PX.slot, iaAF, faF, ldF, D.mem, stF, bxF, mkSF, boundF, fldF, ixAF, mmF2, D.plain, D.isPure, optAll, D.dull, callVF, splice, D.cells, D.one, sets, resT, D.flat, D.flat0, D.simple, Nat.reduceBNe, Nat.reduceLT, reduceIte, Nat.reduceEqDiff, Nat.reduceAdd, Nat.reduceMul, Nat.reduceSub, Nat.reduceLeDiff, Int.reduceToNat, Int.reduceLT, Int.reduceLE, Int.reduceEq, Int.reduceNeg, Int.reduceSub, Int.reduceAdd, Int.reduceMul, stG_own, rt_zero]
 refine ⟨fun hx => ⟨fun hy => ?_, fun hy => (dB_not.2 fun h => hy h.2.1).symm⟩, fun hx => (dB_not.2 fun h => hx h.1).symm⟩
 rw [show v.isZ = (v.z = 0) from propext ⟨fun h => h.2.2, fun h => ⟨hx, hy, h⟩⟩]
theorem Tryz.atzero (v : V3) : Con Tryz.prog Tryz.L 135 [.agg v.L] (.bool (dB v.isZ)) := by
 refine rule135 Tryz.hL rfl rfl rfl ?_
 simp only [V3.L, pc135, rs135, oU, oC, evX, evY, evZ, forall_const, implies_true, initE, stepF, D.clean, mvF, moF, tkF, shF, ariF, ciF, catF, scF, ebF, eqF, eqOk, eqPr, enF, notF, ngF, cvF, csF, csbF, lenF, lenSF, ixF, iaF, PX.slot, iaAF, faF, ldF, D.mem, stF, bxF, mkSF, boundF, fldF, ixAF, mmF2, D.plain, D.isPure, optAll, D.dull, callVF, splice, D.cells, D.one, sets, resT, D.flat, D.flat0, D.simple, Nat.reduceBNe, Nat.reduceLT, reduceIte, Nat.reduceEqDiff, Nat.reduceAdd, Nat.reduceMul, Nat.reduceSub, Nat.reduceLeDiff, Int.reduceToNat, Int.reduceLT, Int.reduceLE, Int.reduceEq, Int.reduceNeg, Int.reduceSub, Int.reduceAdd, Int.reduceMul, stG_own, rt_zero]
 rfl
theorem Tryz.anum4 (v : V3) (o : Rat) (hv : v.rd 200) (ho : rd o ≤ 200) : Con Tryz.prog Tryz.L 146 [.sl 4 (pL v o)] (.int .i64 0) := by
 have := Tryz.tnumbers4 v.t (rt o) (V3.t_sz hv (by decide)) (by have := rt_len o; omega)
 rw [chk_t ⟨(V3.t_ok v).2 hv, (okR_rt o).2 ho⟩] at this
 exact this
set_option maxHeartbeats 2000000 in
theorem Tryz.acp0 (v : V3) (o : Rat) (hv : v.rd 200) (ho : rd o ≤ 200) (hz : ¬v.isZ) : Con Tryz.prog Tryz.L 134 [.agg (pL v o)] (.int .i64 0) := by
 have n4 := Tryz.anum4 v o hv ho
 have vz := Tryz.avzero v
 rw [dB_not.2 hz] at vz
 refine rule134 Tryz.hL rfl rfl rfl ?_
 simp only [V3.L, G3.L, M3.L, pL, pc134, rs134, oU, oC, evX, evY, evZ, forall_const, implies_true, initE, stepF, D.clean, mvF, moF, tkF, shF, ariF, ciF, catF, scF, ebF, eqF, eqOk, eqPr, enF, notF, ngF, cvF, csF, csbF, lenF, lenSF, ixF, iaF, PX.slot, iaAF, faF, ldF, D.mem, stF, bxF, mkSF, boundF, fldF, ixAF, mmF2, D.plain, D.isPure, optAll, D.dull, callVF, splice, D.cells, D.one, sets, resT, D.flat, D.flat0, D.simple, Nat.reduceBNe, Nat.reduceLT, reduceIte, Nat.reduceEqDiff, Nat.reduceAdd, Nat.reduceMul, Nat.reduceSub, Nat.reduceLeDiff, Int.reduceToNat, Int.reduceLT, Int.reduceLE, Int.reduceEq, Int.reduceNeg, Int.reduceSub, Int.reduceAdd, Int.reduceMul, stG_own] at n4 vz ⊢
 repeat (refine ⟨by decide, ?_⟩)
 refine callF_of n4 ?_
 (refine ev ?_; try exact ⟨⟩)
 repeat (refine ⟨by decide, ?_⟩)
 refine callF_of vz ?_
 (refine ev ?_; try exact ⟨⟩)
 all_goals rfl
set_option maxHeartbeats 2000000 in
theorem Tryz.acheckP0 (m : M3) (v : V3) (o : Rat) (hv : v.rd 200) (ho : rd o ≤ 200) (hm : m.rd 200) (hz : ¬v.isZ) : Con Tryz.prog Tryz.L 89 [.agg m.L, .agg (pL v o)] (.int .i64 0) := by
 have ck := Tryz.amcheck m hm
 have cp := Tryz.acp0 v o hv ho hz
 refine rule89 Tryz.hL rfl rfl rfl ?_
 simp only [V3.L, G3.L, M3.L, pL, pc89, rs89, oU, oC, evX, evY, evZ, forall_const, implies_true, initE, stepF, D.clean, mvF, moF, tkF, shF, ariF, ciF, catF, scF, ebF, eqF, eqOk, eqPr, enF, notF, ngF, cvF, csF, csbF, lenF, lenSF, ixF, iaF, PX.slot, iaAF, faF, ldF, D.mem, stF, bxF, mkSF, boundF, fldF, ixAF, mmF2, D.plain, D.isPure, optAll, D.dull, callVF, splice, D.cells, D.one, sets, resT, D.flat, D.flat0, D.simple, Nat.reduceBNe, Nat.reduceLT, reduceIte, Nat.reduceEqDiff, Nat.reduceAdd, Nat.reduceMul, Nat.reduceSub, Nat.reduceLeDiff, Int.reduceToNat, Int.reduceLT, Int.reduceLE, Int.reduceEq, Int.reduceNeg, Int.reduceSub, Int.reduceAdd, Int.reduceMul, stG_own] at ck cp ⊢
 repeat (refine ⟨by decide, ?_⟩)
 refine callF_of ck ?_
 (refine ev ?_; try exact ⟨⟩)
 repeat (refine ⟨by decide, ?_⟩)
 refine callF_of cp ?_
 (refine ev ?_; try exact ⟨⟩)
 all_goals rfl
set_option maxHeartbeats 2000000 in
theorem Tryz.apulled {k : Nat} (g : G3) (s v : V3) (o : Rat) (hg : g.rd k) (hs : s.rd k) (hk : k ≤ 700) (hv : v.rd 100) (ho : rd o ≤ 100) (hz : ¬(g.tr.app v).isZ) (h1 : (g.tr.app v).rd 200) (h2 : rd (o - v.dot s) ≤ 200) : Con Tryz.prog Tryz.L 90 [.agg g.L, .agg s.L, .agg (pL v o)] (.tup [.agg (pL (g.tr.app v) (o - v.dot s)), .int .i64 0]) := by
 have tu := Tryz.aturned g
 have ov := Tryz.aof v
 have ap := Tryz.aapp g.tr v (G3.rd_tr hg) hv (by omega)
 have zz := Tryz.atzero (g.tr.app v)
 rw [dB_not.2 hz] at zz
 have ve := Tryz.avector (g.tr.app v)
 have dt := Tryz.adot v s hv hs (by omega)
 have su := Tryz.rsub o (v.dot s) (by omega) (by have := V3.rd_dot hv hs; omega)
 have cp := Tryz.acp0 (g.tr.app v) (o - v.dot s) h1 h2 hz
 refine rule90 Tryz.hL rfl rfl rfl ?_
 simp only [V3.L, G3.L, M3.L, pL, pc90, rs90, oU, oC, evX, evY, evZ, forall_const, implies_true, initE, stepF, D.clean, mvF, moF, tkF, shF, ariF, ciF, catF, scF, ebF, eqF, eqOk, eqPr, enF, notF, ngF, cvF, csF, csbF, lenF, lenSF, ixF, iaF, PX.slot, iaAF, faF, ldF, D.mem, stF, bxF, mkSF, boundF, fldF, ixAF, mmF2, D.plain, D.isPure, optAll, D.dull, callVF, splice, D.cells, D.one, sets, resT, D.flat, D.flat0, D.simple, Nat.reduceBNe, Nat.reduceLT, reduceIte, Nat.reduceEqDiff, Nat.reduceAdd, Nat.reduceMul, Nat.reduceSub, Nat.reduceLeDiff, Int.reduceToNat, Int.reduceLT, Int.reduceLE, Int.reduceEq, Int.reduceNeg, Int.reduceSub, Int.reduceAdd, Int.reduceMul, stG_own] at tu ov ap zz ve dt su cp ⊢
 repeat (refine ⟨by decide, ?_⟩)
 refine callF_of tu ?_
 (refine ev ?_; try exact ⟨⟩)
 repeat (refine ⟨by decide, ?_⟩)
 refine callF_of ov ?_
 (refine ev ?_; try exact ⟨⟩)
 repeat (refine ⟨by decide, ?_⟩)
 refine callF_of ap ?_
 (refine ev ?_; try exact ⟨⟩)
 repeat (refine ⟨by decide, ?_⟩)
 refine callF_of zz ?_
 (refine ev ?_; try exact ⟨⟩)
 repeat (refine ⟨by decide, ?_⟩)
 refine callF_of ve ?_
 (refine ev ?_; try exact ⟨⟩)
 repeat (refine ⟨by decide, ?_⟩)
 refine callF_of ov ?_
 (refine ev ?_; try exact ⟨⟩)
 repeat (refine ⟨by decide, ?_⟩)
 refine callF_of dt ?_
 (refine ev ?_; try exact ⟨⟩)
 repeat (refine ⟨by decide, ?_⟩)
 refine callF_of su ?_
 (refine ev ?_; try exact ⟨⟩)
 repeat (refine ⟨by decide, ?_⟩)
 refine callF_of cp ?_
 (refine ev ?_; try exact ⟨⟩)
 all_goals rfl
set_option maxHeartbeats 2000000 in
theorem Tryz.aPull (m : M3) (v : V3) (o : Rat) (hm : m.rd 100) (hv : v.rd 100) (ho : rd o ≤ 100) (hz : ¬v.isZ) (hn : ¬(m.g.tr.app v).isZ) (h1 : (m.g.tr.app v).rd 200) (h2 : rd (o - v.dot m.s) ≤ 200) : Con Tryz.prog Tryz.L 41 [.agg m.L, .agg (pL v o)] (.tup [.agg (pL (m.g.tr.app v) (o - v.dot m.s)), .int .i64 0]) := by
 have ck := Tryz.acheckP0 m v o (V3.rd_mono hv (by decide)) (by omega) (M3.rd_mono hm (by decide)) hz
 have ro := Tryz.arows m
 have os := Tryz.aof m.s
 have pu := Tryz.apulled m.g m.s v o hm.1 hm.2 (by decide) hv ho hn h1 h2
 refine rule41 Tryz.hL rfl rfl rfl ?_
 simp only [V3.L, G3.L, M3.L, pL, pc41, rs41, oU, oC, evX, evY, evZ, forall_const, implies_true, initE, stepF, D.clean, mvF, moF, tkF, shF, ariF, ciF, catF, scF, ebF, eqF, eqOk, eqPr, enF, notF, ngF, cvF, csF, csbF, lenF, lenSF, ixF, iaF, PX.slot, iaAF, faF, ldF, D.mem, stF, bxF, mkSF, boundF, fldF, ixAF, mmF2, D.plain, D.isPure, optAll, D.dull, callVF, splice, D.cells, D.one, sets, resT, D.flat, D.flat0, D.simple, Nat.reduceBNe, Nat.reduceLT, reduceIte, Nat.reduceEqDiff, Nat.reduceAdd, Nat.reduceMul, Nat.reduceSub, Nat.reduceLeDiff, Int.reduceToNat, Int.reduceLT, Int.reduceLE, Int.reduceEq, Int.reduceNeg, Int.reduceSub, Int.reduceAdd, Int.reduceMul, stG_own] at ck ro os pu ⊢
 repeat (refine ⟨by decide, ?_⟩)
 refine callF_of ck ?_
 (refine ev ?_; try exact ⟨⟩)
 repeat (refine ⟨by decide, ?_⟩)
 refine callF_of ro ?_
 (refine ev ?_; try exact ⟨⟩)
 repeat (refine ⟨by decide, ?_⟩)
 refine callF_of os ?_
 (refine ev ?_; try exact ⟨⟩)
 repeat (refine ⟨by decide, ?_⟩)
 refine callF_of pu ?_
 (refine ev ?_; try exact ⟨⟩)
 all_goals rfl
end Go.Proofs

/-
 AFFINE: Fixed. Own work.
-/
namespace Go.Proofs
open Go Go.Pi Go.RowKit Go.Shelf Go.Ar Go.Mx

theorem Tryz.alist (v : V3) : Con Tryz.prog Tryz.L 61 [.agg v.L] (.sl 3 v.L) := by
 refine rule61 Tryz.hL rfl rfl rfl ?_
 simp only [V3.L, pc61, rs61, oU, oC, evX, evY, evZ, forall_const, implies_true, initE, stepF, D.clean, mvF, moF, tkF, shF, ariF, ciF, catF, scF, ebF, eqF, eqOk, eqPr, enF, notF, ngF, cvF, csF, csbF, lenF, lenSF, ixF, iaF, PX.slot, iaAF, faF, ldF, D.mem, stF, bxF, mkSF, boundF, fldF, ixAF, mmF2, D.plain, D.isPure, optAll, D.dull, callVF, splice, D.cells, D.one, sets, resT, D.flat, D.flat0, D.simple, Nat.reduceBNe, Nat.reduceLT, reduceIte, Nat.reduceEqDiff, Nat.reduceAdd, Nat.reduceMul, Nat.reduceSub, Nat.reduceLeDiff, Int.reduceToNat, Int.reduceLT, Int.reduceLE, Int.reduceEq, Int.reduceNeg, Int.reduceSub, Int.reduceAdd, Int.reduceMul, stG_own]
/-- the rows less those of the identity -/
def M3.fr (m : M3) (i : Nat) : V3 := (m.g.row i).sub (G3.one.row i)
def M3.fF (m : M3) : Mtx := fun i j => (m.fr i).at' j
def M3.fy (m : M3) : Nat → Rat := fun i => -(m.s.at' i)
theorem M3.f_mat (m : M3) : matD 3 3 m.fF = .sl 3 [.sl 3 (m.fr 0).L, .sl 3 (m.fr 1).L, .sl 3 (m.fr 2).L] := rfl
theorem M3.f_rhs (m : M3) : rowD 3 m.fy = .sl 3 [.str (rt (-m.s.x)), .str (rt (-m.s.y)), .str (rt (-m.s.z))] := rfl
theorem strs3 (f : Nat → Rat) : strs 3 f = [.str (rt (f 0)), .str (rt (f 1)), .str (rt (f 2))] := rfl
/-- the free directions -/
def fixK (K : RSt) (n : Nat) : List D := tsD (lst n fun i => (V3.of (kerM K 3 i)).t)
theorem fixK_succ (K : RSt) (n : Nat) : fixK K (n + 1) = fixK K n ++ (V3.of (kerM K 3 n)).L := by
 unfold fixK tsD
 rw [lst_succ, List.flatMap_append]
 simp [T3.L, V3.t, V3.L]
theorem fixK_len (K : RSt) (n : Nat) : (fixK K n).length = 3 * n := by
 unfold fixK; rw [tsD_len, lst_len]
noncomputable def fixR (s K : RSt) : D := @ite D (okS 3 3 s) (Classical.propDecidable _) (.tup [.agg (V3.of (solV s 3)).L, .sl (freeC K.lead 3).length (fixK K (freeC K.lead 3).length), .bool true, .int .i64 0]) (.tup [.agg [.str [], .str [], .str []], .sl 0 [], .bool false, .int .i64 0])
set_option maxRecDepth 100000 in
set_option maxHeartbeats 8000000 in
theorem Tryz.aFixed (m : M3) (w : Nat) (h3 : w = 3) (hm : m.rd 20) (hw : RBs 2 3 (w + 1) (wideM w m.fF fun i _ => m.fy i)) (hF : RBs 2 3 w m.fF) : Con Tryz.prog Tryz.L 14 [.agg m.L] (fixR (redM 3 (wideM w m.fF fun i _ => m.fy i) w) (redM 3 m.fF w)) := by
 have ck := Tryz.amcheck m (M3.rd_mono hm (by decide))
 have ro := Tryz.arows m
 have un := Tryz.aunit
 have h1 := G3.rd_one
 have s0 : Con Tryz.prog Tryz.L 59 [.agg m.g.a.L, .agg G3.one.a.L] (.agg (m.fr 0).L) := Tryz.asub m.g.a G3.one.a hm.1.1 h1.1 (by decide) (by decide)
 have s1 : Con Tryz.prog Tryz.L 59 [.agg m.g.b.L, .agg G3.one.b.L] (.agg (m.fr 1).L) := Tryz.asub m.g.b G3.one.b hm.1.2.1 h1.2.1 (by decide) (by decide)
 have s2 : Con Tryz.prog Tryz.L 59 [.agg m.g.c.L, .agg G3.one.c.L] (.agg (m.fr 2).L) := Tryz.asub m.g.c G3.one.c hm.1.2.2 h1.2.2 (by decide) (by decide)
 have l0 := Tryz.alist (m.fr 0); have l1 := Tryz.alist (m.fr 1); have l2 := Tryz.alist (m.fr 2)
 have os := Tryz.aof m.s
 have n0 := Tryz.rneg m.s.x (by have := hm.2.1; omega)
 have n1 := Tryz.rneg m.s.y (by have := hm.2.2.1; omega)
 have n2 := Tryz.rneg m.s.z (by have := hm.2.2.2; omega)
 have hp : (2 + 1) * 2 ^ w = 24 := by rw [h3]
 have hwr := rbs_red hw (w := w) (by omega)
 have hFr := rbs_red hF (w := w) (Nat.le_refl _)
 rw [hp] at hwr hFr
 have hgd := good_red 3 m.fF w
 have hfc := free_count hgd.inc hgd.lt
 have hle : (redM 3 (wideM w m.fF fun i _ => m.fy i) w).lead.length ≤ 3 := (good_red 3 _ w).len
 have hrt : Rts 3 w m.fF := rts_of hF (by decide)
 have hyr : Rt 3 m.fy := fun i hi => by
  have := rd_of_nb ((hw i hi).nb (j := w) (by omega))
  have e : wideM w m.fF (fun i _ => m.fy i) i w = m.fy i := if_neg (by omega)
  rw [e] at this
  show rd (m.fy i) ≤ 200
  omega
 have hsn := solV_nb (n := 3) (m := w) hwr hle
 have hsv : (V3.of (solV (redM 3 (wideM w m.fF fun i _ => m.fy i) w) w)).rd 200 := ⟨by have := rd_of_nb (hsn 0); exact Nat.le_trans this (by decide), by have := rd_of_nb (hsn 1); exact Nat.le_trans this (by decide), by have := rd_of_nb (hsn 2); exact Nat.le_trans this (by decide)⟩
 have hS := Tryz.msolveW 3 w m.fF m.fy (by decide) (by decide) (by omega) hrt hyr (bnd_of hw (by omega) (by omega)) (fun _ j _ => by have := rd_of_nb (hsn j); exact Nat.le_trans this (by decide))
 have hK := Tryz.mkernel 3 w m.fF (by decide) (by omega) (fun h => absurd h (by decide)) hrt (bnd_of hF (Nat.le_refl _) (by omega)) (fun i hi j _ => by have := rd_of_nb (kerM_nb hFr hgd hi j); exact Nat.le_trans this (by decide))
 have pl := Tryz.aplace (V3.of (solV (redM 3 (wideM w m.fF fun i _ => m.fy i) w) w)) hsv
 have vv := fun i => Tryz.avector (V3.of (kerM (redM 3 m.fF w) w i))
 generalize redM 3 (wideM w m.fF fun i _ => m.fy i) w = S at *
 generalize redM 3 m.fF w = K at *
 clear hwr hFr hsn hrt hyr hsv hp hw hF
 subst h3
 rw [M3.f_rhs] at hS
 rw [M3.f_mat] at hS hK
 generalize hN : (freeC K.lead 3).length = N at *
 refine rule14 Tryz.hL (by unfold fixR; split <;> rfl) rfl rfl ?_
 simp only [V3.L, M3.L, G3.L, pc14, rs14, oU, oC, evX, evY, evZ, forall_const, implies_true, initE, stepF, D.clean, mvF, moF, tkF, shF, ariF, ciF, catF, scF, ebF, eqF, eqOk, eqPr, enF, notF, ngF, cvF, csF, csbF, lenF, lenSF, ixF, iaF, PX.slot, iaAF, faF, ldF, D.mem, stF, bxF, mkSF, boundF, fldF, ixAF, mmF2, D.plain, D.isPure, optAll, D.dull, callVF, splice, D.cells, D.one, sets, resT, D.flat, D.flat0, D.simple, Nat.reduceBNe, Nat.reduceLT, reduceIte, Nat.reduceEqDiff, Nat.reduceAdd, Nat.reduceMul, Nat.reduceSub, Nat.reduceLeDiff, Int.reduceToNat, Int.reduceLT, Int.reduceLE, Int.reduceEq, Int.reduceNeg, Int.reduceSub, Int.reduceAdd, Int.reduceMul, stG_own] at ck ro un s0 s1 s2 l0 l1 l2 os pl hS hK ⊢
 refine callF_of ck ?_
 (refine ev ?_; try exact ⟨⟩)
 refine callF_of ro ?_
 (refine ev ?_; try exact ⟨⟩)
 refine loopF_of (fun E => ∃ (p q : D) (i : Int), ((i = 0 ∧ p = .own true 59 0 [] ∧ q = .own true 28 0 []) ∨ (i = 1 ∧ p = .own true 59 1 [.sl 3 (m.fr 0).L] ∧ q = .own true 28 1 [.str (rt (-m.s.x))]) ∨ (i = 2 ∧ p = .own true 59 2 [.sl 3 (m.fr 0).L, .sl 3 (m.fr 1).L] ∧ q = .own true 28 2 [.str (rt (-m.s.x)), .str (rt (-m.s.y))]) ∨ (i = 3 ∧ p = .own true 59 3 [.sl 3 (m.fr 0).L, .sl 3 (m.fr 1).L, .sl 3 (m.fr 2).L] ∧ q = .own true 28 3 [.str (rt (-m.s.x)), .str (rt (-m.s.y)), .str (rt (-m.s.z))])) ∧ E = [(1, .box true m.L), (2, .box true [.str [], .str [], .str []]), (3, .own true 30 0 []), (8, p), (9, q), (26, .agg m.g.L), (27, .int .i64 i)])
  (fun E => match lk E 27 with | .int _ i => (3 - i).toNat | _ => 0) ⟨_, _, _, .inl ⟨rfl, rfl, rfl⟩, by simp [M3.L, G3.L]⟩ ?_
 rintro _ ⟨p, q, i, hp, rfl⟩
 rcases hp with ⟨rfl, rfl, rfl⟩ | ⟨rfl, rfl, rfl⟩ | ⟨rfl, rfl, rfl⟩ | ⟨rfl, rfl, rfl⟩
 ·simp only [V3.L, M3.L, G3.L, evX, evY, evZ, forall_const, implies_true, initE, stepF, D.clean, mvF, moF, tkF, shF, ariF, ciF, catF, scF, ebF, eqF, eqOk, eqPr, enF, notF, ngF, cvF, csF, csbF, lenF, lenSF, ixF, iaF, PX.slot, iaAF, faF, ldF, D.mem, stF, bxF, mkSF, boundF, fldF, ixAF, mmF2, D.plain, D.isPure, optAll, D.dull, callVF, splice, D.cells, D.one, sets, resT, D.flat, D.flat0, D.simple, Nat.reduceBNe, Nat.reduceLT, reduceIte, Nat.reduceEqDiff, Nat.reduceAdd, Nat.reduceMul, Nat.reduceSub, Nat.reduceLeDiff, Int.reduceToNat, Int.reduceLT, Int.reduceLE, Int.reduceEq, Int.reduceNeg, Int.reduceSub, Int.reduceAdd, Int.reduceMul, stG_own]
  repeat (refine ⟨by decide, ?_⟩)
  refine callF_of un ?_
  (refine ev ?_; try exact ⟨⟩)
  repeat (refine ⟨by decide, ?_⟩)
  refine callF_of s0 ?_
  (refine ev ?_; try exact ⟨⟩)
  refine callF_of l0 ?_
  (refine ev ?_; try exact ⟨⟩)
  repeat (refine ⟨by decide, ?_⟩)
  refine callF_of os ?_
  (refine ev ?_; try exact ⟨⟩)
  repeat (refine ⟨by decide, ?_⟩)
  refine callF_of n0 ?_
  (refine ev ?_; try exact ⟨⟩)
  repeat (refine ⟨by decide, ?_⟩)
  exact ⟨_, _, _, .inr (.inl ⟨rfl, rfl, rfl⟩), by simp [M3.L, G3.L, V3.L]⟩
 ·simp only [V3.L, M3.L, G3.L, evX, evY, evZ, forall_const, implies_true, initE, stepF, D.clean, mvF, moF, tkF, shF, ariF, ciF, catF, scF, ebF, eqF, eqOk, eqPr, enF, notF, ngF, cvF, csF, csbF, lenF, lenSF, ixF, iaF, PX.slot, iaAF, faF, ldF, D.mem, stF, bxF, mkSF, boundF, fldF, ixAF, mmF2, D.plain, D.isPure, optAll, D.dull, callVF, splice, D.cells, D.one, sets, resT, D.flat, D.flat0, D.simple, Nat.reduceBNe, Nat.reduceLT, reduceIte, Nat.reduceEqDiff, Nat.reduceAdd, Nat.reduceMul, Nat.reduceSub, Nat.reduceLeDiff, Int.reduceToNat, Int.reduceLT, Int.reduceLE, Int.reduceEq, Int.reduceNeg, Int.reduceSub, Int.reduceAdd, Int.reduceMul, stG_own]
  repeat (refine ⟨by decide, ?_⟩)
  refine callF_of un ?_
  (refine ev ?_; try exact ⟨⟩)
  repeat (refine ⟨by decide, ?_⟩)
  refine callF_of s1 ?_
  (refine ev ?_; try exact ⟨⟩)
  refine callF_of l1 ?_
  (refine ev ?_; try exact ⟨⟩)
  repeat (refine ⟨by decide, ?_⟩)
  refine callF_of os ?_
  (refine ev ?_; try exact ⟨⟩)
  repeat (refine ⟨by decide, ?_⟩)
  refine callF_of n1 ?_
  (refine ev ?_; try exact ⟨⟩)
  repeat (refine ⟨by decide, ?_⟩)
  exact ⟨_, _, _, .inr (.inr (.inl ⟨rfl, rfl, rfl⟩)), by simp [M3.L, G3.L, V3.L]⟩
 ·simp only [V3.L, M3.L, G3.L, evX, evY, evZ, forall_const, implies_true, initE, stepF, D.clean, mvF, moF, tkF, shF, ariF, ciF, catF, scF, ebF, eqF, eqOk, eqPr, enF, notF, ngF, cvF, csF, csbF, lenF, lenSF, ixF, iaF, PX.slot, iaAF, faF, ldF, D.mem, stF, bxF, mkSF, boundF, fldF, ixAF, mmF2, D.plain, D.isPure, optAll, D.dull, callVF, splice, D.cells, D.one, sets, resT, D.flat, D.flat0, D.simple, Nat.reduceBNe, Nat.reduceLT, reduceIte, Nat.reduceEqDiff, Nat.reduceAdd, Nat.reduceMul, Nat.reduceSub, Nat.reduceLeDiff, Int.reduceToNat, Int.reduceLT, Int.reduceLE, Int.reduceEq, Int.reduceNeg, Int.reduceSub, Int.reduceAdd, Int.reduceMul, stG_own]
  repeat (refine ⟨by decide, ?_⟩)
  refine callF_of un ?_
  (refine ev ?_; try exact ⟨⟩)
  repeat (refine ⟨by decide, ?_⟩)
  refine callF_of s2 ?_
  (refine ev ?_; try exact ⟨⟩)
  refine callF_of l2 ?_
  (refine ev ?_; try exact ⟨⟩)
  repeat (refine ⟨by decide, ?_⟩)
  refine callF_of os ?_
  (refine ev ?_; try exact ⟨⟩)
  repeat (refine ⟨by decide, ?_⟩)
  refine callF_of n2 ?_
  (refine ev ?_; try exact ⟨⟩)
  repeat (refine ⟨by decide, ?_⟩)
  exact ⟨_, _, _, .inr (.inr (.inr ⟨rfl, rfl, rfl⟩)), by simp [M3.L, G3.L, V3.L]⟩
 ·simp only [V3.L, M3.L, G3.L, evX, evY, evZ, forall_const, implies_true, initE, stepF, D.clean, mvF, moF, tkF, shF, ariF, ciF, catF, scF, ebF, eqF, eqOk, eqPr, enF, notF, ngF, cvF, csF, csbF, lenF, lenSF, ixF, iaF, PX.slot, iaAF, faF, ldF, D.mem, stF, bxF, mkSF, boundF, fldF, ixAF, mmF2, D.plain, D.isPure, optAll, D.dull, callVF, splice, D.cells, D.one, sets, resT, D.flat, D.flat0, D.simple, Nat.reduceBNe, Nat.reduceLT, reduceIte, Nat.reduceEqDiff, Nat.reduceAdd, Nat.reduceMul, Nat.reduceSub, Nat.reduceLeDiff, Int.reduceToNat, Int.reduceLT, Int.reduceLE, Int.reduceEq, Int.reduceNeg, Int.reduceSub, Int.reduceAdd, Int.reduceMul, stG_own]
  by_cases hok : okS 3 3 S
  ·rw [show fixR S K = _ from if_pos hok]
   rw [show solD 3 3 S = _ from if_pos hok] at hS
   refine callF_of hS ?_
   (refine ev ?_; try exact ⟨⟩)
   refine ⟨fun h => absurd h (by split <;> decide), fun _ => ?_⟩
   refine callF_of hK ?_
   (refine ev ?_; try exact ⟨⟩)
   rw [hN]
   refine loopF_of (fun E => ∃ k : Nat, k ≤ N ∧ E = [(2, .box true [.str [], .str [], .str []]), (3, .own true 30 k (fixK K k)), (12, .sl 3 (strs 3 (solV S 3))), (76, matD N 3 (kerM K 3)), (77, .int .i64 N), (78, .int .i64 k)])
    (fun E => match lk E 78 with | .int _ i => N - i.toNat | _ => 0) ⟨0, Nat.zero_le _, rfl⟩ ?_
   rintro _ ⟨k, hk, rfl⟩
   (refine ev ?_; try exact ⟨⟩)
   refine ⟨fun h3 => ?_, fun h3 => ?_⟩
   ·have hkN : k < N := by omega
    have hv := vv k
    simp only [V3.L] at hv
    refine ⟨⟨by omega, by omega, by rw [rowsD_len]; omega⟩, ?_⟩
    rw [ldC_rowsD]
    refine ⟨hkN, ?_⟩
    simp only [strs3, evX, evY, evZ, forall_const, implies_true, initE, stepF, D.clean, mvF, moF, tkF, shF, ariF, ciF, catF, scF, ebF, eqF, eqOk, eqPr, enF, notF, ngF, cvF, csF, csbF, lenF, lenSF, ixF, iaF, PX.slot, iaAF, faF, ldF, D.mem, stF, bxF, mkSF, boundF, fldF, ixAF, mmF2, D.plain, D.isPure, optAll, D.dull, callVF, splice, D.cells, D.one, sets, resT, D.flat, D.flat0, D.simple, Nat.reduceBNe, Nat.reduceLT, reduceIte, Nat.reduceEqDiff, Nat.reduceAdd, Nat.reduceMul, Nat.reduceSub, Nat.reduceLeDiff, Int.reduceToNat, Int.reduceLT, Int.reduceLE, Int.reduceEq, Int.reduceNeg, Int.reduceSub, Int.reduceAdd, Int.reduceMul, stG_own]
    repeat (refine ⟨by decide, ?_⟩)
    refine callF_of hv ?_
    (refine ev ?_; try exact ⟨⟩)
    have hl := fixK_len K k
    exact ⟨by omega, by omega, by omega, ⟨k + 1, by omega, by rw [fixK_succ]; rfl, by simp⟩, by omega⟩
   ·obtain rfl : k = N := by omega
    simp only [strs3, evX, evY, evZ, forall_const, implies_true, initE, stepF, D.clean, mvF, moF, tkF, shF, ariF, ciF, catF, scF, ebF, eqF, eqOk, eqPr, enF, notF, ngF, cvF, csF, csbF, lenF, lenSF, ixF, iaF, PX.slot, iaAF, faF, ldF, D.mem, stF, bxF, mkSF, boundF, fldF, ixAF, mmF2, D.plain, D.isPure, optAll, D.dull, callVF, splice, D.cells, D.one, sets, resT, D.flat, D.flat0, D.simple, Nat.reduceBNe, Nat.reduceLT, reduceIte, Nat.reduceEqDiff, Nat.reduceAdd, Nat.reduceMul, Nat.reduceSub, Nat.reduceLeDiff, Int.reduceToNat, Int.reduceLT, Int.reduceLE, Int.reduceEq, Int.reduceNeg, Int.reduceSub, Int.reduceAdd, Int.reduceMul, stG_own]
    repeat (refine ⟨by decide, ?_⟩)
    refine callF_of pl ?_
    (refine ev ?_; try exact ⟨⟩)
    rfl
  ·rw [show fixR S K = _ from if_neg hok]
   rw [show solD 3 3 S = _ from if_neg hok] at hS
   refine callF_of hS ?_
   (refine ev ?_; try exact ⟨⟩)
   all_goals rfl
end Go.Proofs

/-
 AFFINE: Translation, Shear; the law's vectors and plans, printed by tools/aff5.py. Own work.
-/
namespace Go.Proofs
open Go Go.Pi Go.RowKit Go.Shelf Go.Ar Go.Mx

theorem Tryz.afirst2 (u v : V3) (h : u.rd 200) (h' : v.rd 200) : Con Tryz.prog Tryz.L 74 [.sl 2 [.str (rt u.x), .str (rt u.y), .str (rt u.z), .str (rt v.x), .str (rt v.y), .str (rt v.z)]] (.int .i64 0) := by
 have fi := Tryz.tfirst [u.t, v.t] (by simp) (all2.2 ⟨V3.t_sz h (by decide), V3.t_sz h' (by decide)⟩)
 rw [chk_t (all2.2 ⟨(V3.t_ok u).2 h, (V3.t_ok v).2 h'⟩)] at fi
 exact fi
/-- the rows of a shear -/
def shG (n d : V3) : G3 := ⟨G3.one.a.add (n.mul d.x), G3.one.b.add (n.mul d.y), G3.one.c.add (n.mul d.z)⟩
set_option maxHeartbeats 4000000 in
theorem Tryz.aShear (n d : V3) (hn : n.rd 90) (hd : d.rd 90) (h0 : n.dot d = 0) : Con Tryz.prog Tryz.L 28 [.agg n.L, .agg d.L] (.tup [.agg (M3.mk (shG n d) V3.zero).L, .int .i64 0]) := by
 have fi := Tryz.afirst2 n d (V3.rd_mono hn (by decide)) (V3.rd_mono hd (by decide))
 have on := Tryz.aof n
 have od := Tryz.aof d
 have dt := Tryz.adot n d hn hd (by decide)
 rw [h0, rt0] at dt
 have un := Tryz.aunit
 have hm := fun (q : Rat) (hq : rd q ≤ 90) => V3.rd_mulq hn hq
 have t0 := Tryz.atimes n d.x hn (by have := hd.1; omega) (by decide)
 have t1 := Tryz.atimes n d.y hn (by have := hd.2.1; omega) (by decide)
 have t2 := Tryz.atimes n d.z hn (by have := hd.2.2; omega) (by decide)
 have a0 := Tryz.aadd G3.one.a (n.mul d.x) G3.rd_one.1 (hm _ hd.1) (by decide) (by decide)
 have a1 := Tryz.aadd G3.one.b (n.mul d.y) G3.rd_one.2.1 (hm _ hd.2.1) (by decide) (by decide)
 have a2 := Tryz.aadd G3.one.c (n.mul d.z) G3.rd_one.2.2 (hm _ hd.2.2) (by decide) (by decide)
 have hG : (shG n d).rd 200 := by
  have key : ∀ (e : V3) (q : Rat), e.rd 1 → rd q ≤ 90 → (e.add (n.mul q)).rd 200 := fun e q he hq => by
   have h := hm q hq
   exact ⟨by have := rd_add he.1 h.1; show rd (_ + _) ≤ _; omega, by have := rd_add he.2.1 h.2.1; show rd (_ + _) ≤ _; omega, by have := rd_add he.2.2 h.2.2; show rd (_ + _) ≤ _; omega⟩
  exact ⟨key _ _ G3.rd_one.1 hd.1, key _ _ G3.rd_one.2.1 hd.2.1, key _ _ G3.rd_one.2.2 hd.2.2⟩
 have ma := Tryz.amade (shG n d) V3.zero hG (V3.rd_mono V3.rd_zero (by decide))
 have hz : V3.zero.L = [.str [48], .str [48], .str [48]] := by simp only [V3.L, V3.zero, rt0]
 rw [hz] at ma
 have hz2 : (M3.mk (shG n d) V3.zero).L = (G3.L (shG n d)) ++ V3.L V3.zero := rfl
 rw [hz2, hz] at ma ⊢
 have e0 : (shG n d).a = G3.one.a.add (n.mul d.x) := rfl
 have e1 : (shG n d).b = G3.one.b.add (n.mul d.y) := rfl
 have e2 : (shG n d).c = G3.one.c.add (n.mul d.z) := rfl
 generalize shG n d = G at *
 rw [← e0] at a0; rw [← e1] at a1; rw [← e2] at a2
 clear e0 e1 e2 hG
 generalize G3.one = O at *
 refine rule28 Tryz.hL rfl rfl rfl ?_
 simp only [V3.L, G3.L, M3.L, List.cons_append, List.nil_append, pc28, rs28, oU, oC, evX, evY, evZ, forall_const, implies_true, initE, stepF, D.clean, mvF, moF, tkF, shF, ariF, ciF, catF, scF, ebF, eqF, eqOk, eqPr, enF, notF, ngF, cvF, csF, csbF, lenF, lenSF, ixF, iaF, PX.slot, iaAF, faF, ldF, D.mem, stF, bxF, mkSF, boundF, fldF, ixAF, mmF2, D.plain, D.isPure, optAll, D.dull, callVF, splice, D.cells, D.one, sets, resT, D.flat, D.flat0, D.simple, Nat.reduceBNe, Nat.reduceLT, reduceIte, Nat.reduceEqDiff, Nat.reduceAdd, Nat.reduceMul, Nat.reduceSub, Nat.reduceLeDiff, Int.reduceToNat, Int.reduceLT, Int.reduceLE, Int.reduceEq, Int.reduceNeg, Int.reduceSub, Int.reduceAdd, Int.reduceMul, stG_own] at fi on od dt un t0 t1 t2 a0 a1 a2 ma ⊢
 repeat (refine ⟨by decide, ?_⟩)
 refine callF_of fi ?_
 (refine ev ?_; try exact ⟨⟩)
 repeat (refine ⟨by decide, ?_⟩)
 refine callF_of on ?_
 (refine ev ?_; try exact ⟨⟩)
 repeat (refine ⟨by decide, ?_⟩)
 refine callF_of od ?_
 (refine ev ?_; try exact ⟨⟩)
 repeat (refine ⟨by decide, ?_⟩)
 refine callF_of dt ?_
 (refine ev ?_; try exact ⟨⟩)
 repeat (refine ⟨by decide, ?_⟩)
 refine callF_of un ?_
 (refine ev ?_; try exact ⟨⟩)
 refine loopF_of (fun E => ∃ (p : List D) (i : Int), ((i = 0 ∧ p = [.str (rt O.a.x), .str (rt O.a.y), .str (rt O.a.z), .str (rt O.b.x), .str (rt O.b.y), .str (rt O.b.z), .str (rt O.c.x), .str (rt O.c.y), .str (rt O.c.z)]) ∨ (i = 1 ∧ p = [.str (rt G.a.x), .str (rt G.a.y), .str (rt G.a.z), .str (rt O.b.x), .str (rt O.b.y), .str (rt O.b.z), .str (rt O.c.x), .str (rt O.c.y), .str (rt O.c.z)]) ∨ (i = 2 ∧ p = [.str (rt G.a.x), .str (rt G.a.y), .str (rt G.a.z), .str (rt G.b.x), .str (rt G.b.y), .str (rt G.b.z), .str (rt O.c.x), .str (rt O.c.y), .str (rt O.c.z)]) ∨ (i = 3 ∧ p = [.str (rt G.a.x), .str (rt G.a.y), .str (rt G.a.z), .str (rt G.b.x), .str (rt G.b.y), .str (rt G.b.z), .str (rt G.c.x), .str (rt G.c.y), .str (rt G.c.z)])) ∧ E = [(4, .box true [.str [], .str [], .str [], .str [], .str [], .str [], .str [], .str [], .str [], .str [], .str [], .str []]), (7, .box true n.L), (8, .box true d.L), (9, .box true p), (29, .int .i64 i)])
  (fun E => match lk E 29 with | .int _ i => (3 - i).toNat | _ => 0) ⟨_, _, .inl ⟨rfl, rfl⟩, by simp [V3.L]⟩ ?_
 rintro _ ⟨p, i, hp, rfl⟩
 rcases hp with ⟨rfl, rfl⟩ | ⟨rfl, rfl⟩ | ⟨rfl, rfl⟩ | ⟨rfl, rfl⟩
 ·simp only [V3.L, evX, evY, evZ, forall_const, implies_true, initE, stepF, D.clean, mvF, moF, tkF, shF, ariF, ciF, catF, scF, ebF, eqF, eqOk, eqPr, enF, notF, ngF, cvF, csF, csbF, lenF, lenSF, ixF, iaF, PX.slot, iaAF, faF, ldF, D.mem, stF, bxF, mkSF, boundF, fldF, ixAF, mmF2, D.plain, D.isPure, optAll, D.dull, callVF, splice, D.cells, D.one, sets, resT, D.flat, D.flat0, D.simple, Nat.reduceBNe, Nat.reduceLT, reduceIte, Nat.reduceEqDiff, Nat.reduceAdd, Nat.reduceMul, Nat.reduceSub, Nat.reduceLeDiff, Int.reduceToNat, Int.reduceLT, Int.reduceLE, Int.reduceEq, Int.reduceNeg, Int.reduceSub, Int.reduceAdd, Int.reduceMul, stG_own]
  repeat (refine ⟨by decide, ?_⟩)
  refine callF_of t0 ?_
  (refine ev ?_; try exact ⟨⟩)
  refine callF_of a0 ?_
  (refine ev ?_; try exact ⟨⟩)
  repeat (refine ⟨by decide, ?_⟩)
  exact ⟨_, _, .inr (.inl ⟨rfl, rfl⟩), by simp [V3.L]⟩
 ·simp only [V3.L, evX, evY, evZ, forall_const, implies_true, initE, stepF, D.clean, mvF, moF, tkF, shF, ariF, ciF, catF, scF, ebF, eqF, eqOk, eqPr, enF, notF, ngF, cvF, csF, csbF, lenF, lenSF, ixF, iaF, PX.slot, iaAF, faF, ldF, D.mem, stF, bxF, mkSF, boundF, fldF, ixAF, mmF2, D.plain, D.isPure, optAll, D.dull, callVF, splice, D.cells, D.one, sets, resT, D.flat, D.flat0, D.simple, Nat.reduceBNe, Nat.reduceLT, reduceIte, Nat.reduceEqDiff, Nat.reduceAdd, Nat.reduceMul, Nat.reduceSub, Nat.reduceLeDiff, Int.reduceToNat, Int.reduceLT, Int.reduceLE, Int.reduceEq, Int.reduceNeg, Int.reduceSub, Int.reduceAdd, Int.reduceMul, stG_own]
  repeat (refine ⟨by decide, ?_⟩)
  refine callF_of t1 ?_
  (refine ev ?_; try exact ⟨⟩)
  refine callF_of a1 ?_
  (refine ev ?_; try exact ⟨⟩)
  repeat (refine ⟨by decide, ?_⟩)
  exact ⟨_, _, .inr (.inr (.inl ⟨rfl, rfl⟩)), by simp [V3.L]⟩
 ·simp only [V3.L, evX, evY, evZ, forall_const, implies_true, initE, stepF, D.clean, mvF, moF, tkF, shF, ariF, ciF, catF, scF, ebF, eqF, eqOk, eqPr, enF, notF, ngF, cvF, csF, csbF, lenF, lenSF, ixF, iaF, PX.slot, iaAF, faF, ldF, D.mem, stF, bxF, mkSF, boundF, fldF, ixAF, mmF2, D.plain, D.isPure, optAll, D.dull, callVF, splice, D.cells, D.one, sets, resT, D.flat, D.flat0, D.simple, Nat.reduceBNe, Nat.reduceLT, reduceIte, Nat.reduceEqDiff, Nat.reduceAdd, Nat.reduceMul, Nat.reduceSub, Nat.reduceLeDiff, Int.reduceToNat, Int.reduceLT, Int.reduceLE, Int.reduceEq, Int.reduceNeg, Int.reduceSub, Int.reduceAdd, Int.reduceMul, stG_own]
  repeat (refine ⟨by decide, ?_⟩)
  refine callF_of t2 ?_
  (refine ev ?_; try exact ⟨⟩)
  refine callF_of a2 ?_
  (refine ev ?_; try exact ⟨⟩)
  repeat (refine ⟨by decide, ?_⟩)
  exact ⟨_, _, .inr (.inr (.inr ⟨rfl, rfl⟩)), by simp [V3.L]⟩
 ·simp only [V3.L, evX, evY, evZ, forall_const, implies_true, initE, stepF, D.clean, mvF, moF, tkF, shF, ariF, ciF, catF, scF, ebF, eqF, eqOk, eqPr, enF, notF, ngF, cvF, csF, csbF, lenF, lenSF, ixF, iaF, PX.slot, iaAF, faF, ldF, D.mem, stF, bxF, mkSF, boundF, fldF, ixAF, mmF2, D.plain, D.isPure, optAll, D.dull, callVF, splice, D.cells, D.one, sets, resT, D.flat, D.flat0, D.simple, Nat.reduceBNe, Nat.reduceLT, reduceIte, Nat.reduceEqDiff, Nat.reduceAdd, Nat.reduceMul, Nat.reduceSub, Nat.reduceLeDiff, Int.reduceToNat, Int.reduceLT, Int.reduceLE, Int.reduceEq, Int.reduceNeg, Int.reduceSub, Int.reduceAdd, Int.reduceMul, stG_own]
  refine callF_of ma ?_
  (refine ev ?_; try exact ⟨⟩)
  rfl
theorem sf_int (z : Int) (h : z.natAbs ≤ 1000000000) : SF (z : Rat) := ⟨h, by show (1 : Nat) ≤ _; decide⟩
theorem div1 (z : Int) : (z : Rat) / ((1 : Int) : Rat) = (z : Rat) := by
 rw [Rat.div_def]
 have : ((1 : Int) : Rat)⁻¹ = 1 := by decide +kernel
 rw [this, Rat.mul_one]
set_option maxHeartbeats 2000000 in
theorem Tryz.avec (x y z : Int) (hx : x.natAbs ≤ 1000000000) (hy : y.natAbs ≤ 1000000000) (hz : z.natAbs ≤ 1000000000) : Con Tryz.prog Tryz.L 22 [.int .i64 x, .int .i64 y, .int .i64 z] (.agg (V3.L ⟨(x : Rat), (y : Rat), (z : Rat)⟩)) := by
 have mx := Tryz.fmake x 1 (by decide) (by omega) (by decide)
 rw [div1] at mx
 have my := Tryz.fmake y 1 (by decide) (by omega) (by decide)
 rw [div1] at my
 have mz := Tryz.fmake z 1 (by decide) (by omega) (by decide)
 rw [div1] at mz
 have ve := Tryz.wvector ⟨(x : Rat), (y : Rat), (z : Rat)⟩ ⟨sf_int x hx, sf_int y hy, sf_int z hz⟩
 refine rule22 Tryz.hL rfl rfl rfl ?_
 simp only [V3.L, G3.L, M3.L, fD, V3.F, pc22, rs22, oU, oC, evX, evY, evZ, forall_const, implies_true, initE, stepF, D.clean, mvF, moF, tkF, shF, ariF, ciF, catF, scF, ebF, eqF, eqOk, eqPr, enF, notF, ngF, cvF, csF, csbF, lenF, lenSF, ixF, iaF, PX.slot, iaAF, faF, ldF, D.mem, stF, bxF, mkSF, boundF, fldF, ixAF, mmF2, D.plain, D.isPure, optAll, D.dull, callVF, splice, D.cells, D.one, sets, resT, D.flat, D.flat0, D.simple, Nat.reduceBNe, Nat.reduceLT, reduceIte, Nat.reduceEqDiff, Nat.reduceAdd, Nat.reduceMul, Nat.reduceSub, Nat.reduceLeDiff, Int.reduceToNat, Int.reduceLT, Int.reduceLE, Int.reduceEq, Int.reduceNeg, Int.reduceSub, Int.reduceAdd, Int.reduceMul, stG_own] at mx my mz ve ⊢
 repeat (refine ⟨by decide, ?_⟩)
 refine callF_of mx ?_
 (refine ev ?_; try exact ⟨⟩)
 repeat (refine ⟨by decide, ?_⟩)
 refine callF_of my ?_
 (refine ev ?_; try exact ⟨⟩)
 repeat (refine ⟨by decide, ?_⟩)
 refine callF_of mz ?_
 (refine ev ?_; try exact ⟨⟩)
 repeat (refine ⟨by decide, ?_⟩)
 refine callF_of ve ?_
 (refine ev ?_; try exact ⟨⟩)
 all_goals rfl
end Go.Proofs
