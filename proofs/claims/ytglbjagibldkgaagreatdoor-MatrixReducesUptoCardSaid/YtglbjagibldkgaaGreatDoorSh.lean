/-
  MATRIX: identity, units beside; slices.Contains of columns. Own work.
-/
import Derived.Test.YtglbjagibldkgaaGreatDoorPj
import Derived.Test.YtglbjagibldkgaaGreatDoorSg
import Derived.Test.YtglbjagibldkgaaGreatDoorEj
import Derived.Test.YtglbjagibldkgaaGreatDoorEi
import Derived.Deep.RegionHeld3
import Derived.OwnWalk
import Derived.Test.YtglbjagibldkgaaGreatDoorSf
import Derived.Test.YtglbjagibldkgaaGreatDoorEh
import Derived.Test.YtglbjagibldkgaaGreatDoorEk
set_option linter.unusedVariables false
set_option linter.unusedSimpArgs false
namespace Go.Proofs
open Go Go.Pi Go.RowKit Go.Shelf Go.Ar Go.Mx

/-- a string stored into an own row -/
theorem stG_str {s j e n : Nat} {cs : List D} {q : List UInt8} {N : EP} {E : Env} : stG 1 s j (.own true e n cs) (.str q) N E = (j < cs.length ∧ N (st1 E s (.own true e n (cs.set j (.str q))))) := by
  simp only [stG, D.wr, D.cells, D.mem, D.isPure, D.setMem, List.length_singleton, List.all_cons, List.all_nil, D.one, Bool.and_self, true_and]
  by_cases h : j < cs.length
  · have e : splice cs j [.str q] = cs.set j (.str q) := by
      simp only [splice, List.length_singleton]
      rw [List.set_eq_take_append_cons_drop, if_pos h]
      simp
    rw [e]
    simp [h, show j + 1 ≤ cs.length by omega]
  · simp [h, show ¬ j + 1 ≤ cs.length by omega]
/-- columns as data -/
abbrev nats (l : List Nat) : List D := l.map fun x : Nat => .int .i64 x
theorem nats_lst (l : List Nat) : nats l = lst l.length fun k => .int .i64 ((l.getD k 0 : Nat) : Int) := by
  apply List.ext_getElem?
  intro i
  rw [List.getElem?_map]
  by_cases h : i < l.length
  · rw [lst_at _ h, List.getD_eq_getElem?_getD, List.getElem?_eq_getElem h]; rfl
  · rw [List.getElem?_eq_none (by omega), List.getElem?_eq_none (by rw [lst_len]; omega)]; rfl
theorem ldC_nats {l : List Nat} {k t : Nat} {N : EP} {E : Env} : ldC false 1 (List.take 1 (List.drop k (l.map fun x : Nat => D.int .i64 x))) t N E = (k < l.length ∧ N (st1 E t (.int .i64 ((l.getD k 0 : Nat) : Int)))) := by
  rw [show (l.map fun x : Nat => D.int .i64 x) = _ from nats_lst l]
  exact ldC_lst fun _ => rfl
theorem repl_lst {α : Type} (n : Nat) (a : α) : (List.replicate n [a]).flatten = lst n fun _ => a := by
  induction n with
  | zero => rfl
  | succ n ih => rw [lst_succ, ← ih, ← List.replicate_append_replicate (n := n) (m := 1) (a := [a]), List.flatten_append]; rfl
theorem Tryz.mzeros (n : Nat) (hn : n ≤ 1000) : Con Tryz.prog Tryz.L 56 [.sl 1 [.str [48]], .int .i64 n] (.own true 42 n (strs n fun _ => 0)) := by
  have h := Tryz.mrepeat 1 n [.str [48]] rfl (by omega) hn
  rw [Nat.mul_one, repl_lst] at h
  rw [show strs n (fun _ => 0) = lst n fun _ => .str [48] from lst_congr fun i _ => by rw [rt_zero.2 rfl]]
  exact h
theorem strs_set (m j : Nat) (r : Nat → Rat) (q : Rat) : (strs m r).set j (.str (rt q)) = strs m fun i => if i = j then q else r i := by
  show (lst m _).set j _ = lst m _
  rw [lst_set]
  exact lst_congr fun i _ => by by_cases h : i = j <;> simp [h]
theorem Tryz.midentity (n : Nat) (hn : n ≤ 1000) : Con Tryz.prog Tryz.L 45 [.int .i64 n] (.own true 49 n (rowsD n n oneM)) := by
  refine rule45 Tryz.hL rfl rfl rfl ?_
  (simp only [pc45, rs45, oU, oC]; refine ev ?_; try with_reducible exact trivial)
  refine loopF_of (fun E => ∃ k : Nat, k ≤ n ∧ E = [(0, .int .i64 n), (3, .own true 49 k (rowsD k n oneM)), (6, .int .i64 n), (7, .int .i64 k)])
    (fun E => match lk E 7 with | .int _ i => n - i.toNat | _ => 0) ⟨0, Nat.zero_le _, rfl⟩ ?_
  rintro _ ⟨k, hk, rfl⟩
  (refine ev ?_; try with_reducible exact trivial)
  refine ⟨fun h3 => ?_, fun h3 => ?_⟩
  · refine callF_of (Tryz.mzeros n hn) ?_
    (refine ev ?_; try with_reducible exact trivial)
    rw [stG_str, strs_len, show ([49] : List UInt8) = rt 1 from (rt_one.2 rfl).symm, strs_set]
    refine ⟨⟨by omega, by omega⟩, by omega, ?_⟩
    (refine ev ?_; try with_reducible exact trivial)
    rw [show (fun i => if i = k then (1 : Rat) else 0) = oneM k by funext i; simp [oneM, eq_comm]]
    exact ⟨by omega, by omega, by omega, ⟨k + 1, by omega, by rw [rowsD_succ], by simp⟩, by omega⟩
  · obtain rfl : k = n := by omega
    rfl
end Go.Proofs

/-
  MATRIX: reduced without columns, in the plain walk. Own work.
-/
namespace Go.Proofs
open Go Go.Pi Go.RowKit Go.Shelf Go.Ar Go.Mx

set_option maxRecDepth 100000 in
set_option maxHeartbeats 8000000 in
theorem Tryz.mreduced0 (n m : Nat) (F : Mtx) (hn2 : n ≤ 12) (h0 : n = 0 ∨ m = 0) :
    Con Tryz.prog Tryz.L 40 [matD n m F, .int .i64 0] (.tup [matD n m F, .sl 0 [], .str [49]]) := by
  have mixed : Tryz.prog.follows .mixedOrders = true := by kernel_rfl
  have t0 := Tryz.underlying28; have a0 := Tryz.isAgg28; have z0 := Tryz.sizeOf28; have v0 := Tryz.zeroValue28; have u0 := run_underlying Tryz.underlying28
  have t1 := Tryz.underlying49; have a1 := Tryz.isAgg49; have z1 := Tryz.sizeOf49; have v1 := Tryz.zeroValue49; have u1 := run_underlying Tryz.underlying49
  have t2 := Tryz.underlying42; have a2 := Tryz.isAgg42; have z2 := Tryz.sizeOf42; have v2 := Tryz.zeroValue42; have u2 := run_underlying Tryz.underlying42
  have t3 := Tryz.underlying4; have a3 := Tryz.isAgg4; have z3 := Tryz.sizeOf4; have v3 := Tryz.zeroValue4; have u3 := run_underlying Tryz.underlying4
  have t4 := Tryz.underlying3; have a4 := Tryz.isAgg3; have z4 := Tryz.sizeOf3; have v4 := Tryz.zeroValue3; have u4 := run_underlying Tryz.underlying3
  have t5 := Tryz.underlying30; have a5 := Tryz.isAgg30; have z5 := Tryz.sizeOf30; have v5 := Tryz.zeroValue30; have u5 := run_underlying Tryz.underlying30
  have infoRow : (Tryz.prog.info? 49).map (fun i => (i.zero, i.size, i.bytes)) = some (some (.slice none 0 0), 1, 24) := by kernel_rfl
  obtain ⟨ir, hir, hirr⟩ := Option.map_eq_some_iff.1 infoRow
  simp only [Prod.mk.injEq] at hirr
  refine ⟨⟨by kernel_rfl, rfl⟩, fun S W vs hS hL hrep => ?_⟩
  obtain ⟨vm, r1, rfl, hrm, t1'⟩ := hrep.uncons
  obtain ⟨vw, r2, rfl, hrw, t2'⟩ := t1'.uncons
  obtain rfl := hrw.int_inv
  obtain rfl : r2 = [] := List.length_eq_zero_iff.1 t2'.1.symm
  clear t1' t2' hrep hrw
  by_cases hn : n = 0
  · subst hn
    obtain ⟨a, cap, rfl⟩ : ∃ a cap, vm = .slice a 0 cap := by
      generalize hd : rowsD 0 m F = ds at hrm
      cases hrm <;> exact ⟨_, _, rfl⟩
    show Calls _ _ #[.slice a 0 cap, .int .i64 0] _ _
    go_enter Tryz.func40, Tryz.ntmps40
    go_wp2
    go_loopg [23, 4] 0 (fun gg s23 s4 wr => s23 = .int .i64 0 ∧ s4 = .slice none 0 0 ∧ wr = W)
    case atStart => exact ⟨rfl, rfl, rfl⟩
    case round =>
      obtain ⟨rfl, rfl, rfl⟩ := hrel
      go_wp2
      go_loopg [34, 5, 6] 0 (fun gg s34 s5 s6 wq => s34 = .int .i64 0 ∧ s5 = .slice none 0 0 ∧ s6 = .string ⟨#[49]⟩ ∧ wq = wr)
      case atStart => exact ⟨rfl, rfl, rfl, rfl⟩
      case round =>
        obtain ⟨rfl, rfl, rfl, rfl⟩ := hrel
        go_wp2
        go_ret3
        refine ⟨_, rfl, Below.refl _ _, .tup _ [_, _, _] rfl ?_⟩
        intro i d u hd hu
        match i with
        | 0 => cases hd; cases hu; exact .sl0 none 0 (Nat.zero_le _)
        | 1 => cases hd; cases hu; exact .sl0 none 0 (Nat.zero_le _)
        | 2 => cases hd; cases hu; exact .str [49] (by decide)
        | k + 3 => simp at hd
  · obtain rfl : m = 0 := h0.resolve_left hn
    obtain ⟨b0, o0, cap0, rv, rfl, hcm0, hrl, hrow⟩ : ∃ b0 o0 cap0, ∃ rv : Nat → Value, vm = .slice (some ⟨b0, o0, none⟩) n cap0 ∧ cap0 ≤ maxLen ∧ b0 < W.heap.size ∧ ∀ k, k < n → W.cell? ⟨b0, o0 + k, none⟩ = some (rv k) ∧ Rep S W (rowD 0 (F k)) (rv k) := by
      generalize hd : rowsD n 0 F = ds at hrm
      cases hrm with
      | sl0 => omega
      | sl _ _ b off cap vs hl h1 hnn hc hr h =>
        subst hd
        rw [rowsD_len] at hl
        have hv : ∀ k, k < n → vs[k]? = some (vs.getD k default) := fun k hk => by rw [List.getD_eq_getElem?_getD, List.getElem?_eq_getElem (by omega)]; rfl
        exact ⟨b, off, cap, fun k => vs.getD k default, rfl, hc, hS b _ (hr 0 _ (hv 0 (by omega))).1, fun k hk => ⟨(hr k _ (hv k hk)).2, h k _ _ (lst_at _ hk) (hv k hk)⟩⟩
    clear hrm
    show Calls _ _ #[.slice (some ⟨b0, o0, none⟩) n cap0, .int .i64 0] _ _
    go_enter Tryz.func40, Tryz.ntmps40
    go_wp2
    go_loopg [23, 4] n (fun gg s23 s4 wr => ∃ (k : Nat) (V : Nat → Value), s23 = .int .i64 k ∧ k ≤ n ∧ n ≤ gg + k ∧ wr.ownsRow W.heap.size 49 1 s4 k (lst k V) ∧ Hid (∀ i, ∃ a c, V i = .slice a 0 c ∧ c ≤ maxLen) ∧ Below W.heap.size W wr)
    case atStart => exact ⟨0, fun _ => .slice none 0 0, rfl, by omega, by omega, World.ownsRow_nil _ _ _ _, fun _ => ⟨none, 0, rfl, Nat.zero_le _⟩, Below.refl _ _⟩
    case round =>
      obtain ⟨k, V, rfl, hk, hgk, q1, HV, hbw⟩ := hrel
      by_cases hlt : k < n
      · have ck := (hbw.cell (p := ⟨b0, o0 + k, none⟩) hrl).trans (hrow k hlt).1
        have hkz : (k : Int) < (n : Int) := by omega
        have hk0 : (0 : Int) ≤ (k : Int) := Int.natCast_nonneg _
        have hC := (Tryz.mclone 0 (F k) (by omega)).2 S wr [rv k] (fun b j h => Nat.lt_of_lt_of_le (hS b j h) hbw.size) (Tryz.hL W wr hL hbw) (Reps.cons ((hrow k hlt).2.mono (fun _ _ z => z) (fun b o z => hbw.cell (p := ⟨b, o, none⟩) (hS b o z))) .nil)
        go_wp2_with (first
          | (go_at_call 68; refine Calls.mono hC ?_; rintro e W1 ⟨v1, rfl, hb1, hr1⟩; have o1 := own_of_res1 (n := 0) (f := fun j => rt (F k j)) (by kernel_rfl) hr1; obtain ⟨ad1, c1, hv1, hc1⟩ : ∃ a c, v1 = .slice a 0 c ∧ c ≤ maxLen := (by rcases o1.2 with ⟨h1, _⟩ | ⟨b, c, cur, h1, _, _, _, h2, _⟩; exact ⟨none, 0, h1, Nat.zero_le _⟩; exact ⟨_, _, h1, h2⟩); clear hr1 hC; subst hv1; clear o1; have q11 := q1.kept (gr_below (r := none) hb1) (Classical.em _))
          | (at_builtin; refine wpList_append_own _ rfl _ _ 28 rfl W.heap.size 49 ir (.slice none 0 0) 1 24 Tryz.underlying28 hir hirr.1 hirr.2.1 hirr.2.2 rfl (by decide) _ k _ rfl (q11.alloc _) ⟨W1.heap.size, 0, none⟩ 1 1 [.slice ad1 0 c1] rfl rfl (World.news_of_block (heap_alloc_new W1 _)) (by simp [Value.oneCell']) (by unfold maxLen; omega) (by omega) (by simp; have := hb1.size; have := hbw.size; omega) ?_; intro v5 w5 ho5 hg5 hn5))
        have hbl : Below W.heap.size W w5 := ((hbw.trans (hb1.mono hbw.size)).alloc (by have := hb1.size; have := hbw.size; omega) _).grown hg5 (by have := hb1.size; have := hbw.size; simp; omega) (fun k hk => (q1.lt k hk).1)
        have e5 : lst k V ++ [.slice ad1 0 c1] = lst (k + 1) (fun i => if i = k then .slice ad1 0 c1 else V i) := by
          rw [lst_succ, if_pos rfl]
          rw [lst_congr (g := V) (fun i hi => if_neg (by omega))]
        rw [e5] at ho5
        go_roundg (n - (k + 1))
        case measure => omega
        case rel =>
          refine ⟨k + 1, fun i => if i = k then .slice ad1 0 c1 else V i, by go_num, by omega, by omega, ho5, fun i => ?_, hbl⟩
          by_cases e : i = k
          · simp only [if_pos e]; exact ⟨ad1, c1, rfl, hc1⟩
          · simp only [if_neg e]; exact HV.out i
      · have hkz : ¬(k : Int) < (n : Int) := by omega
        obtain rfl : n = k := by omega
        clear hkz hk hgk hrow hrl hcm0
        obtain ⟨wb, hwb⟩ : ∃ wb, wb = wr := ⟨wr, rfl⟩
        subst hwb
        go_wp2
        go_loopg [34, 5, 6] 0 (fun gg s34 s5 s6 wq => s34 = .int .i64 0 ∧ s5 = .slice none 0 0 ∧ s6 = .string ⟨#[49]⟩ ∧ wq = wb)
        case atStart => exact ⟨rfl, rfl, rfl, rfl⟩
        case round =>
          obtain ⟨rfl, rfl, rfl, rfl⟩ := hrel
          go_wp2
          go_ret3
          refine ⟨_, rfl, hbw, .tup _ [_, _, _] rfl ?_⟩
          intro i d u hd hu
          match i with
          | 0 =>
            cases hd; cases hu
            rcases q1.2 with ⟨_, h⟩ | ⟨b, cap, cur, e, hbg, hg, hnc, hcm, _, _⟩
            · omega
            · have e2 : u4 = .slice (some ⟨b, 0, none⟩) n cap := e
              show Rep _ _ _ u4
              subst e2
              refine .sl n _ b 0 cap (lst n V) (by rw [rowsD_len, lst_len]) (fun d hd => ?_) hnc hcm (fun i u hu => ⟨.inr ⟨hbg, (Array.getElem?_eq_some_iff.1 hg).1⟩, ?_⟩) (fun i d u hd hu => ?_)
              · obtain ⟨x, _, rfl⟩ := List.mem_map.1 hd
                rfl
              · have hlt := (List.getElem?_eq_some_iff.1 hu).1
                rw [lst_len] at hlt
                rw [Nat.zero_add, q1.cellAt i (by omega)]; exact hu
              · have hlt := (List.getElem?_eq_some_iff.1 hu).1
                rw [lst_len] at hlt
                rw [lst_at _ hlt] at hu
                rw [show rowsD n 0 F = lst n fun i => rowD 0 (F i) from rfl, lst_at _ hlt] at hd
                cases hd; cases hu
                obtain ⟨a, c, e, hc⟩ := HV.out i
                rw [e]
                exact .sl0 a c hc
          | 1 => cases hd; cases hu; exact .sl0 none 0 (Nat.zero_le _)
          | 2 => cases hd; cases hu; exact .str [49] (by decide)
          | k + 3 => simp at hd
end Go.Proofs

/-
  MATRIX: reduced, in the plain walk. Own work.
-/
namespace Go.Proofs
open Go Go.Pi Go.RowKit Go.Shelf Go.Ar Go.Mx

theorem Tryz.infoRow : (Tryz.prog.info? 49).map (fun i => (i.zero, i.size, i.bytes)) = some (some (.slice none 0 0), 1, 24) := by kernel_rfl
theorem Tryz.infoInt : (Tryz.prog.info? 3).map (fun i => (i.zero, i.size, i.bytes)) = some (some (.int .i64 0), 1, 8) := by kernel_rfl
/-- row d by a factor, up to column t -/
def sclT (G : Mtx) (d : Nat) (f : Rat) (t : Nat) : Mtx := fun i k => if i = d ∧ k < t then G i k * f else G i k
/-- the rows before i cleared; and of row i the columns before t -/
def clrT (H : Mtx) (d c i : Nat) : Mtx := fun a => if a = d ∨ i ≤ a then H a else fun b => H a b - H a c * H d b
def clrU (H : Mtx) (d c i t : Nat) : Mtx := fun a b => if a = i ∧ b < t then H i b - H i c * H d b else clrT H d c i a b
theorem sub_zeroM (x y : Rat) : x - 0 * y = x := by grind
theorem rep_strint {S : Nat → Nat → Prop} {w : World} {a : List UInt8} {k : IntKind} {z : Int} {v : Value} (h : Rep S w (.tup [.str a, .int k z]) v) : v = .tuple #[.string ⟨a.toArray⟩, .int k z] := by
  cases h with
  | tup _ vs hl h =>
    match vs, hl, h with
    | [x, y], _, h =>
      have h1 := (h 0 _ _ rfl rfl).str_inv.1
      have h2 := (h 1 _ _ rfl rfl).int_inv
      rw [h1, h2]
set_option maxRecDepth 100000 in
set_option maxHeartbeats 8000000 in
theorem Tryz.mreduced (n m w : Nat) (F : Mtx) (hn : 0 < n) (hn2 : n ≤ 12) (hm : 0 < m) (hm2 : m ≤ 24) (hw : w ≤ m) (hb : ∀ q, q ≤ w → (∀ i, i < n → ∀ j, j < m → rd ((redM n F q).F i j) ≤ 900) ∧ rd ((redM n F q).fac) ≤ 900) :
    Con Tryz.prog Tryz.L 40 [matD n m F, .int .i64 w] (.tup [matD n m (redM n F w).F, .sl (redM n F w).lead.length ((redM n F w).lead.map fun c : Nat => .int .i64 c), .str (rt (redM n F w).fac)]) := by
  have mixed : Tryz.prog.follows .mixedOrders = true := by kernel_rfl
  have t0 := Tryz.underlying28; have a0 := Tryz.isAgg28; have z0 := Tryz.sizeOf28; have v0 := Tryz.zeroValue28; have u0 := run_underlying Tryz.underlying28
  have t1 := Tryz.underlying49; have a1 := Tryz.isAgg49; have z1 := Tryz.sizeOf49; have v1 := Tryz.zeroValue49; have u1 := run_underlying Tryz.underlying49
  have t2 := Tryz.underlying42; have a2 := Tryz.isAgg42; have z2 := Tryz.sizeOf42; have v2 := Tryz.zeroValue42; have u2 := run_underlying Tryz.underlying42
  have t3 := Tryz.underlying4; have a3 := Tryz.isAgg4; have z3 := Tryz.sizeOf4; have v3 := Tryz.zeroValue4; have u3 := run_underlying Tryz.underlying4
  have t4 := Tryz.underlying3; have a4 := Tryz.isAgg3; have z4 := Tryz.sizeOf3; have v4 := Tryz.zeroValue3; have u4 := run_underlying Tryz.underlying3
  have t5 := Tryz.underlying30; have a5 := Tryz.isAgg30; have z5 := Tryz.sizeOf30; have v5 := Tryz.zeroValue30; have u5 := run_underlying Tryz.underlying30
  have t6 := Tryz.underlying31; have a6 := Tryz.isAgg31; have z6 := Tryz.sizeOf31; have v6 := Tryz.zeroValue31; have u6 := run_underlying Tryz.underlying31
  obtain ⟨ir, hir, hirr⟩ := Option.map_eq_some_iff.1 Tryz.infoRow
  simp only [Prod.mk.injEq] at hirr
  obtain ⟨ii, hii, hiir⟩ := Option.map_eq_some_iff.1 Tryz.infoInt
  simp only [Prod.mk.injEq] at hiir
  refine ⟨⟨by kernel_rfl, rfl⟩, fun S W vs hS hL hrep => ?_⟩
  obtain ⟨vm, r1, rfl, hrm, t1'⟩ := hrep.uncons
  obtain ⟨vw, r2, rfl, hrw, t2'⟩ := t1'.uncons
  obtain rfl := hrw.int_inv
  obtain rfl : r2 = [] := List.length_eq_zero_iff.1 t2'.1.symm
  clear t1' t2' hrep hrw
  obtain ⟨b0, o0, cap0, rv, rfl, hcm0, hrl, hrow⟩ : ∃ b0 o0 cap0, ∃ rv : Nat → Value, vm = .slice (some ⟨b0, o0, none⟩) n cap0 ∧ cap0 ≤ maxLen ∧ b0 < W.heap.size ∧ ∀ k, k < n → W.cell? ⟨b0, o0 + k, none⟩ = some (rv k) ∧ Rep S W (rowD m (F k)) (rv k) := by
    generalize hd : rowsD n m F = ds at hrm
    cases hrm with
    | sl0 => omega
    | sl _ _ b off cap vs hl h1 hnn hc hr h =>
      subst hd
      rw [rowsD_len] at hl
      have hv : ∀ k, k < n → vs[k]? = some (vs.getD k default) := fun k hk => by rw [List.getD_eq_getElem?_getD, List.getElem?_eq_getElem (by omega)]; rfl
      exact ⟨b, off, cap, fun k => vs.getD k default, rfl, hc, hS b _ (hr 0 _ (hv 0 hn)).1, fun k hk => ⟨(hr k _ (hv k hk)).2, h k _ _ (lst_at _ hk) (hv k hk)⟩⟩
  have HB : Hid (∀ q, q ≤ w → (∀ i, i < n → ∀ j, j < m → rd ((redM n F q).F i j) ≤ 900) ∧ rd ((redM n F q).fac) ≤ 900) := hb
  clear hb hrm
  show Calls _ _ #[.slice (some ⟨b0, o0, none⟩) n cap0, .int .i64 w] _ _
  go_enter Tryz.func40, Tryz.ntmps40
  go_wp2
  go_loopg [23, 4] n (fun gg s23 s4 wr => ∃ (k : Nat) (B C : Nat → Nat), s23 = .int .i64 k ∧ k ≤ n ∧ n ≤ gg + k ∧ OwnQ wr W.heap.size 49 42 s4 k m B C (fun i j => .string ⟨(rt (F i j)).toArray⟩) ∧ Below W.heap.size W wr)
  case atStart => exact ⟨0, fun _ => 0, fun _ => 0, rfl, by omega, by omega, ⟨World.ownsRow_nil _ _ _ _, fun _ h => absurd h (by omega), fun _ _ h => absurd h (by omega)⟩, Below.refl _ _⟩
  case round =>
    obtain ⟨k, B, C, rfl, hk, hgk, hq, hbw⟩ := hrel
    by_cases hlt : k < n
    · have ck := (hbw.cell (p := ⟨b0, o0 + k, none⟩) hrl).trans (hrow k hlt).1
      have hkz : (k : Int) < (n : Int) := by omega
      have hk0 : (0 : Int) ≤ (k : Int) := Int.natCast_nonneg _
      have hC := (Tryz.mclone m (F k) (by omega)).2 S wr [rv k] (fun b j h => Nat.lt_of_lt_of_le (hS b j h) hbw.size) (Tryz.hL W wr hL hbw) (Reps.cons ((hrow k hlt).2.mono (fun _ _ z => z) (fun b o z => hbw.cell (p := ⟨b, o, none⟩) (hS b o z))) .nil)
      obtain ⟨q1, q2, q3⟩ := hq
      have HQ : Hid ((∀ i, i < k → wr.ownsRow W.heap.size 42 1 (.slice (some ⟨B i, 0, none⟩) m (C i)) m (lst m fun j => .string ⟨(rt (F i j)).toArray⟩)) ∧ (∀ i j, i < k → j < k → B i = B j → i = j)) := ⟨q2, q3⟩
      clear q2 q3
      go_wp2_with (first
        | (go_at_call 68; refine Calls.mono hC ?_; rintro e W1 ⟨v1, rfl, hb1, hr1⟩; have o1 := own_of_res1 (by kernel_rfl) hr1; obtain ⟨b1, c1, rfl, hb11, hb12⟩ := o1.form hm; clear hr1 hC; have q11 := q1.kept (gr_below (r := none) hb1) (Classical.em _))
        | (at_builtin; refine wpList_append_own _ rfl _ _ 28 rfl W.heap.size 49 ir (.slice none 0 0) 1 24 Tryz.underlying28 hir hirr.1 hirr.2.1 hirr.2.2 rfl (by decide) _ k _ rfl (q11.alloc _) ⟨W1.heap.size, 0, none⟩ 1 1 [.slice (some ⟨b1, 0, none⟩) m c1] rfl rfl (World.news_of_block (heap_alloc_new W1 _)) (by simp [Value.oneCell']) (by unfold maxLen; omega) (by omega) (by simp; have := hb1.size; have := hbw.size; omega) ?_; intro v5 w5 ho5 hg5 hn5))
      have hbl : Below W.heap.size W w5 := ((hbw.trans (hb1.mono hbw.size)).alloc (by have := hb1.size; have := hbw.size; omega) _).grown hg5 (by have := hb1.size; have := hbw.size; simp; omega) (fun k hk => (q1.lt k hk).1)
      have hpush := OwnQ.push (X := fun i j => .string ⟨(rt (F i j)).toArray⟩) ⟨q1, HQ.out.1, HQ.out.2⟩ (by decide) hbw.size hb1 o1 ho5 hg5
      go_roundg (n - (k + 1))
      case measure => omega
      case rel =>
        refine ⟨k + 1, fun i => if i = k then b1 else B i, fun i => if i = k then c1 else C i, by go_num, by omega, by omega, ?_, hbl⟩
        have e : (fun i => if i = k then (fun j => Value.string ⟨(rt (F k j)).toArray⟩) else fun j => Value.string ⟨(rt (F i j)).toArray⟩) = fun i j => Value.string ⟨(rt (F i j)).toArray⟩ := by
          funext i
          split
          · rename_i e; rw [e]
          · rfl
        rw [e] at hpush
        exact hpush
    · have hkz : ¬(k : Int) < (n : Int) := by omega
      obtain rfl : n = k := by omega
      obtain ⟨g, cap, rfl, hM⟩ := hq.whole hn (by decide)
      clear hq hkz hk hgk hrow hrl hcm0
      go_wp2
      go_loopg [34, 5, 6] w (fun gg s34 s5 s6 wr => ∃ (c : Nat) (B C : Nat → Nat), s34 = .int .i64 c ∧ c ≤ w ∧ w ≤ gg + c ∧ OwnM wr W.heap.size 49 42 g cap n m B C (fun i j => .string ⟨(rt ((redM n F c).F i j)).toArray⟩) ∧ wr.ownsRow W.heap.size 3 1 s5 (redM n F c).lead.length ((redM n F c).lead.map fun x : Nat => .int .i64 x) ∧ s6 = .string ⟨(rt (redM n F c).fac).toArray⟩ ∧ (redM n F c).lead.length < n ∧ Below W.heap.size W wr)
      case atStart => exact ⟨0, B, C, rfl, by omega, by omega, hM, World.ownsRow_nil _ _ _ _, by simp [redM, rt_one.2 rfl], hn, hbw⟩
      case round =>
        clear hM hbw
        obtain ⟨c, B, C, rfl, hcw, hgc, hM, hld, rfl, hlk, hbw⟩ := hrel
        have hgd := good_red n F c
        obtain ⟨hb1, hb2⟩ := HB.out c hcw
        have HN : Hid (redM n F (c + 1) = stpM n (redM n F c) c) := rfl
        have HS : Hid (∀ i, i < n → ∀ j, j < m → rd ((redM n F c).F i j) ≤ 900) := hb1
        by_cases hlt : c < w
        · have hcz : (c : Int) < (w : Int) := by omega
          have hc0 : (0 : Int) ≤ (c : Int) := Int.natCast_nonneg _
          have HG : Hid (GoodR n c (redM n F c)) := hgd
          clear hgd hb1
          generalize redM n F c = s at *
          have hdz : (s.lead.length : Int) ≤ (n : Int) := by omega
          have hd0 : (0 : Int) ≤ (s.lead.length : Int) := Int.natCast_nonneg _
          have hdt : ((s.lead.length : Int)).toNat = s.lead.length := rfl
          have vsl : ∃ ad cp, u5 = .slice ad s.lead.length cp := by
            rcases hld.2 with ⟨h1, h2⟩ | ⟨g, cap, cur, h1, _⟩
            · exact ⟨none, 0, by rw [h1, h2]⟩
            · exact ⟨_, _, h1⟩
          obtain ⟨ad, cp, rfl⟩ := vsl
          have hgc' : n ≤ cap := by
            rcases hM.top.2 with ⟨h1, _⟩ | ⟨g', cap', cur, h1, _, _, h2, _⟩
            · simp at h1
            · simp only [Value.slice.injEq] at h1
              obtain ⟨_, _, rfl⟩ := h1; exact h2
          have HW : Hid (OwnK W (wr.alloc (.cells #[.int .i64 c] 3)) 49 42 3 g cap n m B C (fun i k => .string ⟨(rt (s.F i k)).toArray⟩) (.slice ad s.lead.length cp) s.lead.length (s.lead.map fun x : Nat => .int .i64 x) wr.heap.size c) := ⟨hM.kept (World.grownBy_alloc wr _ none), hld.alloc _, hbw.alloc hbw.size _, heap_alloc_new wr _⟩
          have hix := fun cap' => Tryz.mindex W.heap.size _ g cap n m B C s.F wr.heap.size s.lead.length c cap' (by omega) (by omega) (by omega) (by omega) HW.out.mat HW.out.boxCell HW.out.boxLt
          clear hM hld hbw
          by_cases hfd : lookM s.F c (n - s.lead.length) s.lead.length < n
          · simp only [if_pos hfd] at hix
            obtain ⟨hp0, hpk⟩ := (look_spec (Nat.le_of_lt hlk)).1 hfd
            have hst := stp_found (s := s) (c := c) hfd
            rw [← HN.out] at hst
            obtain ⟨j, hj⟩ : ∃ j, lookM s.F c (n - s.lead.length) s.lead.length = s.lead.length + j := ⟨_, (Nat.add_sub_cancel' hpk).symm⟩
            rw [hj] at hst hfd hp0
            simp only [hj, Nat.add_sub_cancel_left] at hix
            obtain ⟨G, hG⟩ : ∃ G, G = swpM s.F s.lead.length (s.lead.length + j) := ⟨_, rfl⟩
            have HT : Hid (redM n F (c + 1) = _) := hst
            have HGd : Hid (G s.lead.length = s.F (s.lead.length + j)) := by show _ = _; rw [hG]; simp [swpM]
            have HP : Hid (G s.lead.length c ≠ 0) := by show _ ≠ _; rw [HGd.out]; exact hp0
            have HB3 : Hid (∀ i, i < n → ∀ k, k < m → rd (G i k) ≤ 900) := fun i hi k hk => by
              rw [hG]; unfold swpM
              split
              · exact HS.out _ hfd k hk
              · split
                · exact HS.out _ hlk k hk
                · exact HS.out i hi k hk
            have HGG : Hid (G = swpM s.F s.lead.length (s.lead.length + j)) := hG
            have HF : Hid (rd s.fac ≤ 900) := hb2
            have HT2 : Hid ((redM n F (c + 1)).F = clrM (sclM G s.lead.length c) s.lead.length c ∧ (redM n F (c + 1)).lead = s.lead ++ [c]) := ⟨by rw [hst, hG], by rw [hst]⟩
            clear hst hp0 hpk hj hb2 hG
            by_cases hj0 : 0 < j
            focus
              go_wp2_with (go_at_call 69; refine Calls.mono (hix _) ?_; rintro e W2 ⟨rfl, hb2⟩)
              have hK2 := HW.out.below hb2
              have c1 := hK2.mat.topCell (i := s.lead.length) hlk
              have c2 := hK2.mat.topCell (i := s.lead.length + j) hfd
              have f1 := hK2.mat.topFrozen s.lead.length
              have f2 := hK2.mat.topFrozen (s.lead.length + j)
              have n1 : s.lead.length ≠ s.lead.length + j := by omega
              have n2 : s.lead.length + j ≠ s.lead.length := by omega
              have n3 : ¬j = 0 := by omega
              have n4 : ¬0 = j := by omega
              have i1 : (s.lead.length : Int) < (n : Int) := by omega
              have i2 : (s.lead.length : Int) + (j : Int) < (n : Int) := by omega
              have i3 : (0 : Int) ≤ (s.lead.length : Int) + (j : Int) := by omega
              have i4 : ((s.lead.length : Int) + (j : Int)).toNat = s.lead.length + j := by omega
              have i5 : IntKind.i64.wrap ((s.lead.length : Int) + (j : Int)) = (s.lead.length : Int) + (j : Int) := by rw [IntKind.wrap_i64]; omega
              have HK2 : Hid (OwnK W W2 49 42 3 g cap n m B C (fun i k => .string ⟨(rt (s.F i k)).toArray⟩) (.slice ad s.lead.length cp) s.lead.length (s.lead.map fun x : Nat => .int .i64 x) wr.heap.size c) := hK2
              clear hix hK2 hb2
              go_big_region_o
              have hsw := (HK2.out.swap (by decide) hlk hfd).drew
              have HX : Hid (∃ B' C' : Nat → Nat, OwnK W (((W2.setCell ⟨g, s.lead.length, none⟩ (.slice (some ⟨B (s.lead.length + j), 0, none⟩) m (C (s.lead.length + j)))).setCell ⟨g, s.lead.length + j, none⟩ (.slice (some ⟨B s.lead.length, 0, none⟩) m (C s.lead.length))).drew) 49 42 3 g cap n m B' C' (fun i k => .string ⟨(rt (G i k)).toArray⟩) (.slice ad s.lead.length cp) s.lead.length (s.lead.map fun x : Nat => .int .i64 x) wr.heap.size c) := by
                refine ⟨_, _, hsw.congr fun a ha b hb => ?_⟩
                rw [HGG.out]
                unfold swpM
                by_cases e1 : a = s.lead.length
                · simp only [if_pos e1]
                · by_cases e2 : a = s.lead.length + j
                  · simp only [if_neg e1, if_pos e2]
                  · simp only [if_neg e1, if_neg e2]
              clear c1 c2 f1 f2 HK2 hsw n1 n2 n3 n4 i1 i2 i3 i4 i5
              generalize (((W2.setCell ⟨g, s.lead.length, none⟩ (.slice (some ⟨B (s.lead.length + j), 0, none⟩) m (C (s.lead.length + j)))).setCell ⟨g, s.lead.length + j, none⟩ (.slice (some ⟨B s.lead.length, 0, none⟩) m (C s.lead.length))).drew) = W3 at HX ⊢
              obtain ⟨B', C', hK3⟩ := HX.out
              clear HX
              have hng := (Tryz.rneg s.fac (by have := HF.out; omega)).2 (fun _ _ => False) W3 [.string ⟨(rt s.fac).toArray⟩] (fun _ _ h => h.elim) (Tryz.hL W _ hL hK3.bel) (Reps.cons (.str _ (by have := rt_len s.fac; have := HF.out; unfold maxLen; omega)) .nil)
              have HK3 : Hid (OwnK W W3 49 42 3 g cap n m B' C' (fun i k => .string ⟨(rt (G i k)).toArray⟩) (.slice ad s.lead.length cp) s.lead.length (s.lead.map fun x : Nat => .int .i64 x) wr.heap.size c) := hK3
              clear hK3
              go_wp2_with (first | (go_at_call 57; refine Calls.mono hng ?_; rintro e W4 ⟨v4, rfl, hb4, hr4⟩; obtain rfl : v4 = .string ⟨(rt (-s.fac)).toArray⟩ := (by cases hr4; rfl); clear hr4 hng; have hK4 := HK3.out.below hb4; clear hb4 HK3) | fail)
              have HFq : Hid ((-s.fac) * G s.lead.length c = (redM n F (c + 1)).fac ∧ rd (-s.fac) ≤ 900) := ⟨by rw [HT.out, HGd.out, if_neg (by omega)], by rw [rd_neg]; exact HF.out⟩
              generalize -s.fac = q at *
              clear hfd hj0
            rotate_left
            focus
              obtain rfl : j = 0 := by omega
              go_wp2_with (go_at_call 69; refine Calls.mono (hix _) ?_; rintro e W4 ⟨rfl, hb2⟩)
              have e0 : G = s.F := by
                rw [HGG.out]; funext i
                unfold swpM
                split
                · rename_i e; rw [e]; rfl
                · rename_i e; rw [if_neg (by omega)]
              obtain ⟨B', C', hK4⟩ : ∃ B' C' : Nat → Nat, OwnK W W4 49 42 3 g cap n m B' C' (fun i k => .string ⟨(rt (G i k)).toArray⟩) (.slice ad s.lead.length cp) s.lead.length (s.lead.map fun x : Nat => .int .i64 x) wr.heap.size c := ⟨B, C, by rw [e0]; exact HW.out.below hb2⟩
              have HFq : Hid (s.fac * G s.lead.length c = (redM n F (c + 1)).fac ∧ rd s.fac ≤ 900) := ⟨by rw [HT.out, HGd.out, if_pos (by omega)], HF.out⟩
              clear e0 hb2 hix
              generalize s.fac = q at *
              clear hfd hj0
            all_goals
              clear HT HGd HGG HF HN HS HW
              generalize wr.heap.size = bx at *
              have c1 := hK4.drew.mat.topCell (i := s.lead.length) hlk
              have cr := hK4.drew.mat.rowCell (i := s.lead.length) (j := c) hlk (by omega)
              have cx := hK4.drew.boxCell
              have hz1 : (s.lead.length : Int) < (n : Int) := by omega
              have hz2 : (c : Int) < (m : Int) := by omega
              have hgr : rd (G s.lead.length c) ≤ 900 := HB3.out _ hlk _ (by omega)
              have hlq := rt_len q
              have hlg := rt_len (G s.lead.length c)
              have hq9 := HFq.out.2
              have hmu := (Tryz.rmul q (G s.lead.length c) (by omega) (by omega)).2 (fun _ _ => False) W4.drew [.string ⟨(rt q).toArray⟩, .string ⟨(rt (G s.lead.length c)).toArray⟩] (fun _ _ h => h.elim) (Tryz.hL W _ hL hK4.drew.bel) (Reps.cons (.str _ (by unfold maxLen; omega)) (Reps.cons (.str _ (by unfold maxLen; omega)) .nil))
              have hK5 : Hid (OwnK W W4.drew 49 42 3 g cap n m B' C' (fun i k => .string ⟨(rt (G i k)).toArray⟩) (.slice ad s.lead.length cp) s.lead.length (s.lead.map fun x : Nat => .int .i64 x) bx c) := hK4.drew
              clear hK4 hlq hlg hq9
              go_region_held3 (fun w' => w'.cell? ⟨g, s.lead.length, none⟩ = some (.slice (some ⟨B' s.lead.length, 0, none⟩) m (C' s.lead.length)) ∧ w'.cell? ⟨B' s.lead.length, c, none⟩ = some (.string ⟨(rt (G s.lead.length c)).toArray⟩) ∧ w'.cell? ⟨bx, 0, none⟩ = some (.int .i64 c)) (go_keep)
                (first
                  | (go_at_call 71; refine Calls.mono hmu ?_; rintro e W5 ⟨v5, rfl, hb5, hr5⟩; obtain rfl : v5 = .string ⟨(rt (q * G s.lead.length c)).toArray⟩ := (by cases hr5; rfl); clear hr5; have hK6 := hK5.out.below hb5; have d1 := hK6.mat.topCell (i := s.lead.length) hlk; have d2 := hK6.mat.rowCell (i := s.lead.length) (j := c) hlk (by omega); have d3 := hK6.boxCell; clear hb5))
              clear hmu c1 cr cx d1 d2 d3 hK5
              go_wp2_with fail
              have c1 := hK6.drew.mat.topCell (i := s.lead.length) hlk
              have cr := hK6.drew.mat.rowCell (i := s.lead.length) (j := c) hlk (by omega)
              have cx := hK6.drew.boxCell
              have hdv := Tryz.rdiv 1 (G s.lead.length c) (by decide +kernel) (by omega) HP.out
              rw [rt_one.2 rfl] at hdv
              have hdv := hdv.2 (fun _ _ => False) W5.drew [.string ⟨#[49]⟩, .string ⟨(rt (G s.lead.length c)).toArray⟩] (fun _ _ h => h.elim) (Tryz.hL W _ hL hK6.drew.bel) (Reps.cons (.str [49] (by decide)) (Reps.cons (.str _ (by have := rt_len (G s.lead.length c); unfold maxLen; omega)) .nil))
              have hK7 : Hid (OwnK W W5.drew 49 42 3 g cap n m B' C' (fun i k => .string ⟨(rt (G i k)).toArray⟩) (.slice ad s.lead.length cp) s.lead.length (s.lead.map fun x : Nat => .int .i64 x) bx c) := hK6.drew
              clear hK6
              go_region_held3 (fun w' => w'.cell? ⟨g, s.lead.length, none⟩ = some (.slice (some ⟨B' s.lead.length, 0, none⟩) m (C' s.lead.length)) ∧ w'.cell? ⟨B' s.lead.length, c, none⟩ = some (.string ⟨(rt (G s.lead.length c)).toArray⟩) ∧ w'.cell? ⟨bx, 0, none⟩ = some (.int .i64 c)) (go_keep)
                (first
                  | (go_at_call 72; refine Calls.mono hdv ?_; rintro e W6 ⟨v6, rfl, hb6, hr6⟩; obtain rfl := rep_strint hr6; clear hr6; have hK8 := hK7.out.below hb6; have d1 := hK8.mat.topCell (i := s.lead.length) hlk; have d2 := hK8.mat.rowCell (i := s.lead.length) (j := c) hlk (by omega); have d3 := hK8.boxCell; clear hb6))
              clear hdv c1 cr cx d2 d3 hK7
              go_wp2_with fail
              have hby : rd (1 / G s.lead.length c) ≤ 901 := by
                have h1 := rd_div 1 (G s.lead.length c)
                have h2 : rd 1 ≤ 1 := by decide +kernel
                omega
              have HBY : Hid (rd (1 / G s.lead.length c) ≤ 901) := hby
              have hlb := rt_len (1 / G s.lead.length c)
              clear hby
              go_loopg [93] m (fun gg s93 wq => ∃ t : Nat, s93 = .int .i64 t ∧ t ≤ m ∧ m ≤ gg + t ∧ OwnK W wq 49 42 3 g cap n m B' C' (fun i k => .string ⟨(rt (sclT G s.lead.length (1 / G s.lead.length c) t i k)).toArray⟩) (.slice ad s.lead.length cp) s.lead.length (s.lead.map fun x : Nat => .int .i64 x) bx c)
              case atStart => exact ⟨0, rfl, by omega, by omega, hK8.congr fun a _ b _ => by simp [sclT]⟩
              case round =>
                clear hK8 d1
                obtain ⟨t, rfl, ht, hgt, hK⟩ := hrel
                by_cases htm : t < m
                · have htz : (t : Int) < (m : Int) := by omega
                  have ht0 : (0 : Int) ≤ (t : Int) := Int.natCast_nonneg _
                  have cr := hK.mat.rowCell (i := s.lead.length) (j := t) hlk htm
                  rw [show sclT G s.lead.length (1 / G s.lead.length c) t s.lead.length t = G s.lead.length t from if_neg (by omega)] at cr
                  go_wp2_with fail
                  have hgt9 : rd (G s.lead.length t) ≤ 900 := HB3.out _ hlk _ htm
                  have hlt9 := rt_len (G s.lead.length t)
                  have hby := HBY.out
                  have hmu := (Tryz.rmul (G s.lead.length t) (1 / G s.lead.length c) (by omega) (by omega)).2 (fun _ _ => False) wr.drew [.string ⟨(rt (G s.lead.length t)).toArray⟩, .string ⟨(rt (1 / G s.lead.length c)).toArray⟩] (fun _ _ h => h.elim) (Tryz.hL W _ hL hK.drew.bel) (Reps.cons (.str _ (by unfold maxLen; omega)) (Reps.cons (.str _ (by unfold maxLen; omega)) .nil))
                  have c1 := hK.drew.mat.topCell (i := s.lead.length) hlk
                  have fr := hK.drew.mat.rowFrozen (i := s.lead.length) hlk t
                  have cr : wr.drew.cell? ⟨B' s.lead.length, t, none⟩ = some (.string ⟨(rt (G s.lead.length t)).toArray⟩) := cr
                  have hKd : Hid (OwnK W wr.drew 49 42 3 g cap n m B' C' (fun i k => .string ⟨(rt (sclT G s.lead.length (1 / G s.lead.length c) t i k)).toArray⟩) (.slice ad s.lead.length cp) s.lead.length (s.lead.map fun x : Nat => .int .i64 x) bx c) := hK.drew
                  clear hK hby hlt9
                  have n1 := hKd.out.mat.ne _ hlk
                  have n2 := n1.symm
                  go_region_held3 (fun w' => w'.cell? ⟨g, s.lead.length, none⟩ = some (.slice (some ⟨B' s.lead.length, 0, none⟩) m (C' s.lead.length))) (go_keep)
                    (first
                      | (go_at_call 71; refine Calls.mono hmu ?_; rintro e W7 ⟨v7, rfl, hb7, hr7⟩; obtain rfl : v7 = .string ⟨(rt (G s.lead.length t * (1 / G s.lead.length c))).toArray⟩ := (by cases hr7; rfl); clear hr7; have hK9 := hKd.out.below hb7; have d1 := hK9.mat.topCell (i := s.lead.length) hlk; have d2 := (hb7.cell (p := ⟨B' s.lead.length, t, none⟩) (hKd.out.mat.rowLt hlk).2).trans cr; have d3 := hK9.mat.rowFrozen (i := s.lead.length) hlk t; clear hb7))
                  have hK10 : Hid (OwnK W (W7.setCell ⟨B' s.lead.length, t, none⟩ (.string ⟨(rt (G s.lead.length t * (1 / G s.lead.length c))).toArray⟩)) 49 42 3 g cap n m B' C' (fun i k => .string ⟨(rt (sclT G s.lead.length (1 / G s.lead.length c) (t + 1) i k)).toArray⟩) (.slice ad s.lead.length cp) s.lead.length (s.lead.map fun x : Nat => .int .i64 x) bx c) := (hK9.setRow (by decide) hlk t _).congr fun a _ b _ => by
                    unfold sclT
                    by_cases e1 : a = s.lead.length
                    · by_cases e2 : b = t
                      · rw [if_pos ⟨e1, e2⟩, if_pos ⟨e1, by omega⟩, e1, e2]
                      · rw [if_neg (fun h => e2 h.2)]
                        by_cases e3 : b < t
                        · rw [if_pos ⟨e1, e3⟩, if_pos ⟨e1, by omega⟩]
                        · rw [if_neg (fun h => e3 h.2), if_neg (fun h => by have := h.2; omega)]
                    · rw [if_neg (fun h => e1 h.1), if_neg (fun h => e1 h.1), if_neg (fun h => e1 h.1)]
                  clear hK9 d1 d2 d3 n1 n2 hmu c1 fr hKd
                  go_wp2_with fail
                  go_roundg (m - (t + 1))
                  case measure => omega
                  case rel => exact ⟨t + 1, by go_num, by omega, by omega, hK10.out⟩
                · have htz : ¬(t : Int) < (m : Int) := by omega
                  obtain rfl : m = t := by omega
                  have hK11 : Hid (OwnK W wr 49 42 3 g cap n m B' C' (fun i k => .string ⟨(rt (sclM G s.lead.length c i k)).toArray⟩) (.slice ad s.lead.length cp) s.lead.length (s.lead.map fun x : Nat => .int .i64 x) bx c) := hK.congr fun a _ b hb => by
                    unfold sclT sclM
                    by_cases e1 : a = s.lead.length
                    · rw [if_pos ⟨e1, hb⟩, if_pos e1, e1, Rat.div_def, Rat.div_def, Rat.one_mul]
                    · rw [if_neg (fun h => e1 h.1), if_neg e1]
                  clear hK
                  go_wp2_with fail
                  have HR : Hid (∀ a, a < n → ∀ b, b < m → rd (sclM G s.lead.length c a b) ≤ 1800) := fun a ha b hb => by
                    unfold sclM
                    split
                    · have h1 := rd_div (G s.lead.length b) (G s.lead.length c)
                      have h2 := HB3.out _ hlk b hb
                      show rd (G s.lead.length b / G s.lead.length c) ≤ 1800
                      omega
                    · have := HB3.out a ha b hb; omega
                  obtain ⟨H, hH⟩ : ∃ H, H = sclM G s.lead.length c := ⟨_, rfl⟩
                  have HH : Hid (H = sclM G s.lead.length c) := hH
                  rw [← hH] at hK11 HR HT2
                  clear hH htz htm ht hgt hlb
                  have hcm : c < m := by omega
                  go_loopg [110] n (fun gg s110 wq => ∃ i : Nat, s110 = .int .i64 i ∧ i ≤ n ∧ n ≤ gg + i ∧ OwnK W wq 49 42 3 g cap n m B' C' (fun a b => .string ⟨(rt (clrT H s.lead.length c i a b)).toArray⟩) (.slice ad s.lead.length cp) s.lead.length (s.lead.map fun x : Nat => .int .i64 x) bx c)
                  case atStart => exact ⟨0, rfl, by omega, by omega, hK11.out.congr fun a _ b _ => by unfold clrT; rw [if_pos (.inr (Nat.zero_le _))]⟩
                  case round =>
                    clear hK11
                    obtain ⟨i, rfl, hi, hgi, hK⟩ := hrel
                    by_cases hin : i < n
                    · have hiz : (i : Int) < (n : Int) := by omega
                      have hi0 : (0 : Int) ≤ (i : Int) := Int.natCast_nonneg _
                      by_cases hid : i = s.lead.length
                      · subst hid
                        have ct := hK.mat.topCell (i := s.lead.length) hin
                        go_wp2_with fail
                        go_roundg (n - (s.lead.length + 1))
                        case measure => omega
                        case rel =>
                          refine ⟨s.lead.length + 1, by go_num, by omega, by omega, hK.congr fun a ha b hb => ?_⟩
                          unfold clrT
                          by_cases e1 : a = s.lead.length
                          · rw [if_pos (.inl e1), if_pos (.inl e1)]
                          · by_cases e2 : s.lead.length ≤ a
                            · rw [if_pos (.inr e2), if_pos (.inr (by omega))]
                            · rw [if_neg (by omega), if_neg (by omega)]
                      · have hidz : ¬(i : Int) = (s.lead.length : Int) := by omega
                        have hidb : ((i : Int) == (s.lead.length : Int)) = false := beq_false_of_ne hidz
                        have ct := hK.mat.topCell (i := i) hin
                        have cx := hK.boxCell
                        have cr := hK.mat.rowCell (i := i) (j := c) hin hcm
                        rw [show clrT H s.lead.length c i i c = H i c by unfold clrT; rw [if_pos (.inr (Nat.le_refl _))]] at cr
                        by_cases hz0 : H i c = 0
                        · rw [rt_zero.2 hz0] at cr
                          have HZ : Hid (H i c = 0) := hz0
                          clear hz0
                          go_wp2_with fail
                          go_roundg (n - (i + 1))
                          case measure => omega
                          case rel =>
                            refine ⟨i + 1, by go_num, by omega, by omega, hK.congr fun a ha b hb => ?_⟩
                            unfold clrT
                            by_cases e1 : a = i
                            · rw [if_pos (.inr (by omega)), if_neg (by omega), e1, HZ.out]
                              rw [sub_zeroM]
                            · by_cases e2 : a = s.lead.length ∨ i ≤ a
                              · rw [if_pos e2, if_pos (by omega)]
                              · rw [if_neg e2, if_neg (by omega)]
                        · have hzr : (rt (H i c) == [48]) = false := by rw [Bool.eq_false_iff]; simp [rt_zero, hz0]
                          have ctd := hK.mat.topCell (i := s.lead.length) hlk
                          clear hz0
                          go_wp2_with fail
                          clear ct cx cr ctd hzr
                          have HID : Hid (i ≠ s.lead.length) := hid
                          clear hid hidz
                          obtain ⟨hbx, hHbx⟩ : ∃ z, z = bx := ⟨bx, rfl⟩
                          go_loopg [134] m (fun gg s134 wz => ∃ t : Nat, s134 = .int .i64 t ∧ t ≤ m ∧ m ≤ gg + t ∧ OwnK W wz 49 42 3 g cap n m B' C' (fun a b => .string ⟨(rt (clrU H s.lead.length c i t a b)).toArray⟩) (.slice ad s.lead.length cp) s.lead.length (s.lead.map fun x : Nat => .int .i64 x) bx c)
                          case atStart => exact ⟨0, rfl, by omega, by omega, hK.congr fun a _ b _ => by unfold clrU; rw [if_neg (fun h => absurd h.2 (Nat.not_lt_zero _))]⟩
                          case round =>
                            clear hK
                            obtain ⟨t, rfl, ht, hgt, hK⟩ := hrel
                            by_cases htm : t < m
                            · have htz : (t : Int) < (m : Int) := by omega
                              have ht0 : (0 : Int) ≤ (t : Int) := Int.natCast_nonneg _
                              have crd := hK.mat.rowCell (i := s.lead.length) (j := t) hlk htm
                              rw [show clrU H s.lead.length c i t s.lead.length t = H s.lead.length t by unfold clrU clrT; rw [if_neg (fun h => HID.out h.1.symm), if_pos (.inl rfl)]] at crd
                              go_wp2_with fail
                              have x1 : rd (H i t) ≤ 1800 := HR.out _ hin _ htm
                              have x2 : rd (H s.lead.length t) ≤ 1800 := HR.out _ hlk _ htm
                              have x3 : rd (H i c) ≤ 1800 := HR.out _ hin _ hcm
                              have x4 := rd_mul (H i c) (H s.lead.length t)
                              have l1 := rt_len (H i t); have l2 := rt_len (H s.lead.length t); have l3 := rt_len (H i c); have l4 := rt_len (H i c * H s.lead.length t)
                              have hmu := (Tryz.rmul (H i c) (H s.lead.length t) (by omega) (by omega)).2 (fun _ _ => False) wr.drew [.string ⟨(rt (H i c)).toArray⟩, .string ⟨(rt (H s.lead.length t)).toArray⟩] (fun _ _ h => h.elim) (Tryz.hL W _ hL hK.drew.bel) (Reps.cons (.str _ (by unfold maxLen; omega)) (Reps.cons (.str _ (by unfold maxLen; omega)) .nil))
                              have hsu := fun (S' : Nat → Nat → Prop) (w' : World) (h1 : ∀ b j, S' b j → b < w'.heap.size) (h2 : Below W.heap.size W w') => (Tryz.rsub (H i t) (H i c * H s.lead.length t) (by omega) (by omega)).2 S' w' [.string ⟨(rt (H i t)).toArray⟩, .string ⟨(rt (H i c * H s.lead.length t)).toArray⟩] h1 (Tryz.hL W _ hL h2) (Reps.cons (.str _ (by unfold maxLen; omega)) (Reps.cons (.str _ (by unfold maxLen; omega)) .nil))
                              have ctp := hK.drew.mat.topCell (i := i) hin
                              have fri := hK.drew.mat.rowFrozen (i := i) hin t
                              have cri := hK.drew.mat.rowCell (i := i) (j := t) hin htm
                              rw [show clrU H s.lead.length c i t i t = H i t by unfold clrU clrT; rw [if_neg (fun h => absurd h.2 (Nat.lt_irrefl _)), if_pos (.inr (Nat.le_refl _))]] at cri
                              have n1 := hK.mat.ne i hin
                              have n2 := n1.symm
                              have hKd : Hid (OwnK W wr.drew 49 42 3 g cap n m B' C' (fun a b => .string ⟨(rt (clrU H s.lead.length c i t a b)).toArray⟩) (.slice ad s.lead.length cp) s.lead.length (s.lead.map fun x : Nat => .int .i64 x) bx c) := hK.drew
                              clear hK x1 x2 x3 x4 l1 l2 l3 l4 crd
                              go_region_with
                                (first
                                  | (go_at_call 71; refine Calls.mono hmu ?_; rintro e W7 ⟨v7, rfl, hb7, hr7⟩; obtain rfl : v7 = .string ⟨(rt (H i c * H s.lead.length t)).toArray⟩ := (by cases hr7; rfl); clear hr7; have hK8 := hKd.out.below hb7; have e1 := hK8.mat.topCell (i := i) hin; have e2 := (hb7.cell (p := ⟨B' i, t, none⟩) (hKd.out.mat.rowLt hin).2).trans cri; have e3 := hK8.mat.rowFrozen (i := i) hin t; clear hb7)
                                  | (go_at_call 73; refine Calls.mono (hsu (fun _ _ => False) _ (fun _ _ h => h.elim) hK8.bel) ?_; rintro e W9 ⟨v9, rfl, hb9, hr9⟩; obtain rfl : v9 = (.string ⟨(rt (H i t - H i c * H s.lead.length t)).toArray⟩) := (by cases hr9; rfl); clear hr9; have hK9 := hK8.below hb9; have d1 := hK9.mat.topCell (i := i) hin; have d2 := (hb9.cell (p := ⟨B' i, t, none⟩) (hK8.mat.rowLt hin).2).trans e2; have d3 := hK9.mat.rowFrozen (i := i) hin t; clear hb9))
                              all_goals
                                have hK10 : Hid (OwnK W (W9.setCell ⟨B' i, t, none⟩ (.string ⟨(rt (H i t - H i c * H s.lead.length t)).toArray⟩)) 49 42 3 g cap n m B' C' (fun a b => .string ⟨(rt (clrU H s.lead.length c i (t + 1) a b)).toArray⟩) (.slice ad s.lead.length cp) s.lead.length (s.lead.map fun x : Nat => .int .i64 x) bx c) := (hK9.setRow (by decide) hin t _).congr fun a _ b _ => by
                                  unfold clrU
                                  by_cases e1 : a = i
                                  · by_cases e2 : b = t
                                    · rw [if_pos ⟨e1, e2⟩, if_pos ⟨e1, by omega⟩, e2]
                                    · rw [if_neg (fun h => e2 h.2)]
                                      by_cases e3 : b < t
                                      · rw [if_pos ⟨e1, e3⟩, if_pos ⟨e1, by omega⟩]
                                      · rw [if_neg (fun h => e3 h.2), if_neg (fun h => by have := h.2; omega)]
                                  · rw [if_neg (fun h => e1 h.1), if_neg (fun h => e1 h.1), if_neg (fun h => e1 h.1)]
                                clear hK9 d1 d2 d3 n1 n2 hmu hsu fri cri ctp hKd
                                go_wp2_with fail
                                go_roundg (m - (t + 1))
                                case measure => omega
                                case rel => exact ⟨t + 1, by go_num, by omega, by omega, hK10.out⟩
                            · have htz : ¬(t : Int) < (m : Int) := by omega
                              obtain rfl : m = t := by omega
                              go_wp2_with fail
                              go_roundg (n - (i + 1))
                              case measure => omega
                              case rel =>
                                refine ⟨i + 1, by go_num, by omega, by omega, hK.congr fun a ha b hb => ?_⟩
                                unfold clrU
                                by_cases e1 : a = i
                                · have := HID.out
                                  rw [if_pos ⟨e1, hb⟩]
                                  unfold clrT
                                  rw [if_neg (by omega), e1]
                                · rw [if_neg (fun h => e1 h.1)]
                                  unfold clrT
                                  by_cases e2 : a = s.lead.length ∨ i ≤ a
                                  · rw [if_pos e2, if_pos (by omega)]
                                  · rw [if_neg e2, if_neg (by omega)]
                    · have hiz : ¬(i : Int) < (n : Int) := by omega
                      obtain rfl : n = i := by omega
                      have hK12 : Hid (OwnK W wr 49 42 3 g cap n m B' C' (fun a b => .string ⟨(rt (clrM H s.lead.length c a b)).toArray⟩) (.slice ad s.lead.length cp) s.lead.length (s.lead.map fun x : Nat => .int .i64 x) bx c) := hK.congr fun a ha b hb => by
                        unfold clrT clrM
                        by_cases e1 : a = s.lead.length
                        · rw [if_pos (.inl e1), if_pos e1, e1]
                        · rw [if_neg (by omega), if_neg e1]
                      clear hK
                      have cx := hK12.out.boxCell
                      have hld := hK12.out.ld
                      have hbl := hK12.out.bel.size
                      by_cases hfu : s.lead.length + 1 = n
                      · go_wp2_with (first
                          | (at_builtin; refine wpList_append_own _ rfl _ _ 30 rfl W.heap.size 3 ii (.int .i64 0) 1 8 Tryz.underlying30 hii hiir.1 hiir.2.1 hiir.2.2 rfl (by decide) _ s.lead.length _ rfl (hld.alloc _) ⟨wr.heap.size, 0, none⟩ 1 1 [.int .i64 c] rfl rfl (World.news_of_block (heap_alloc_new wr _)) (by simp [Value.oneCell']) (by unfold maxLen; omega) (by omega) (by simp; omega) ?_; intro v5 w5 ho5 hg5 hn5; obtain ⟨b5, c5, rfl, hb51, hb52⟩ := ho5.form (by omega)))
                        obtain ⟨hM5, hB5⟩ := hK12.out.grown (by decide) (by decide) hg5
                        have hl5 : w5.ownsRow W.heap.size 3 1 (.slice (some ⟨b5, 0, none⟩) (s.lead.length + 1) c5) (s.lead ++ [c]).length ((s.lead ++ [c]).map fun x : Nat => .int .i64 x) := by rw [List.map_append, List.length_append]; exact ho5
                        clear ho5 hg5 hn5 hK12 hld
                        go_ret3
                        obtain ⟨r1, r2, r3⟩ := red_full (n := n) (F := F) (w := c + 1) (by rw [HT2.out.2, List.length_append]; exact hfu) (w - (c + 1))
                        rw [show c + 1 + (w - (c + 1)) = w by omega] at r1 r2 r3
                        have hbd := HB.out (c + 1) (by omega)
                        rw [HT2.out.1, ← HFq.out.1] at hbd
                        refine ⟨_, rfl, hB5, ?_⟩
                        rw [r1, r2, r3, HT2.out.1, HT2.out.2, ← HFq.out.1]
                        have hL1 : ∀ i, i < n → ∀ j, j < m → (rt (clrM H s.lead.length c i j)).length ≤ maxLen := fun i hi j hj => by
                          have := rt_len (clrM H s.lead.length c i j); have := hbd.1 i hi j hj; unfold maxLen; omega
                        have hL2 : (rt (q * G s.lead.length c)).length ≤ maxLen := by have := rt_len (q * G s.lead.length c); have := hbd.2; unfold maxLen; omega
                        rw [hfu] at hl5
                        exact res_red (n := n) (m := m) (f := fun i j => rt (clrM H s.lead.length c i j)) hM5 hl5 hL1 hL2
                      · go_wp2_with (first
                          | (at_builtin; refine wpList_append_own _ rfl _ _ 30 rfl W.heap.size 3 ii (.int .i64 0) 1 8 Tryz.underlying30 hii hiir.1 hiir.2.1 hiir.2.2 rfl (by decide) _ s.lead.length _ rfl (hld.alloc _) ⟨wr.heap.size, 0, none⟩ 1 1 [.int .i64 c] rfl rfl (World.news_of_block (heap_alloc_new wr _)) (by simp [Value.oneCell']) (by unfold maxLen; omega) (by omega) (by simp; omega) ?_; intro v5 w5 ho5 hg5 hn5; obtain ⟨b5, c5, rfl, hb51, hb52⟩ := ho5.form (by omega)))
                        obtain ⟨hM5, hB5⟩ := hK12.out.grown (by decide) (by decide) hg5
                        have hl5 : w5.ownsRow W.heap.size 3 1 (.slice (some ⟨b5, 0, none⟩) (s.lead.length + 1) c5) (s.lead ++ [c]).length ((s.lead ++ [c]).map fun x : Nat => .int .i64 x) := by rw [List.map_append, List.length_append]; exact ho5
                        clear ho5 hg5 hn5 hK12 hld
                        have hM6 : OwnM w5 W.heap.size 49 42 g cap n m B' C' (fun i j => .string ⟨(rt ((redM n F (c + 1)).F i j)).toArray⟩) := by rw [HT2.out.1]; exact hM5
                        have hl6 : w5.ownsRow W.heap.size 3 1 (.slice (some ⟨b5, 0, none⟩) (s.lead.length + 1) c5) (redM n F (c + 1)).lead.length ((redM n F (c + 1)).lead.map fun x : Nat => .int .i64 x) := by rw [HT2.out.2]; exact hl5
                        have hlt6 : (redM n F (c + 1)).lead.length < n := by rw [HT2.out.2, List.length_append, List.length_singleton]; omega
                        have hf6 : Value.string ⟨(rt (q * G s.lead.length c)).toArray⟩ = .string ⟨(rt (redM n F (c + 1)).fac).toArray⟩ := by rw [← HFq.out.1]
                        clear hM5 hl5
                        go_roundg (w - (c + 1))
                        case measure => omega
                        case rel => exact ⟨c + 1, B', C', by go_num, by omega, by omega, hM6, hl6, hf6, hlt6, hB5⟩
          · simp only [if_neg hfd] at hix
            have hst := stp_not (s := s) (c := c) hfd
            have HT : Hid (redM n F (c + 1) = { s with gap := true }) := by show _ = _; rw [HN.out, hst]
            clear hfd hst
            go_wp2_with (go_at_call 69; refine Calls.mono (hix _) ?_; rintro e W2 ⟨rfl, hb2⟩)
            have hK2 := HW.out.below hb2
            clear hix HW
            go_roundg (w - (c + 1))
            case measure => omega
            case rel => exact ⟨c + 1, B, C, by go_num, by omega, by omega, by rw [HT.out]; exact hK2.mat, by rw [HT.out]; exact hK2.ld, by rw [HT.out], by rw [HT.out]; exact hlk, hK2.bel⟩
        · have hcz : ¬(c : Int) < (w : Int) := by omega
          obtain rfl : w = c := by omega
          go_wp2
          go_ret3
          have hL1 : ∀ i, i < n → ∀ j, j < m → (rt ((redM n F w).F i j)).length ≤ maxLen := fun i hi j hj => by
            have := rt_len ((redM n F w).F i j); have := hb1 i hi j hj; unfold maxLen; omega
          have hL2 : (rt (redM n F w).fac).length ≤ maxLen := by have := rt_len (redM n F w).fac; unfold maxLen; omega
          exact ⟨_, rfl, hbw, res_red (n := n) (m := m) (f := fun i j => rt ((redM n F w).F i j)) hM hld hL1 hL2⟩
end Go.Proofs

/-
  MATRIX: the functions: reduced for any size, Reduce, Rank, square, Determinant, list, Apply, Identity, Transpose, Mul. Own work.
-/
namespace Go.Proofs
open Go Go.Pi Go.RowKit Go.Shelf Go.Ar Go.Mx

/-- all numbers under way are of a bounded size -/
def Bnd (n m w : Nat) (F : Mtx) : Prop := ∀ q, q ≤ w → (∀ i, i < n → ∀ j, j < m → rd ((redM n F q).F i j) ≤ 900) ∧ rd ((redM n F q).fac) ≤ 900
theorem Tryz.mred (n m w : Nat) (F : Mtx) (hn2 : n ≤ 12) (hm2 : m ≤ 24) (hw : w ≤ m) (h0 : n = 0 → w = 0) (hb : Bnd n m w F) :
    Con Tryz.prog Tryz.L 40 [matD n m F, .int .i64 w] (.tup [matD n m (redM n F w).F, .sl (redM n F w).lead.length ((redM n F w).lead.map fun c : Nat => .int .i64 c), .str (rt (redM n F w).fac)]) := by
  by_cases h : n = 0 ∨ m = 0
  · obtain rfl : w = 0 := by rcases h with h | h; exact h0 h; omega
    have := Tryz.mreduced0 n m F hn2 h
    simp only [redM, List.length_nil, List.map_nil]
    rw [rt_one.2 rfl]
    exact this
  · exact Tryz.mreduced n m w F (by omega) hn2 (by omega) hm2 hw hb
theorem lead_len {n w : Nat} (F : Mtx) : (redM n F w).lead.length ≤ n := (good_red n F w).len
theorem lead_w {n w : Nat} (F : Mtx) : (redM n F w).lead.length ≤ w := by
  have h := good_red n F w
  have := free_count h.inc h.lt
  omega
theorem Tryz.mrank (n m : Nat) (F : Mtx) (hn : n ≤ 12) (hm : m ≤ 12) (h0 : n = 0 → m = 0) (hr : Rts n m F) (hb : Bnd n m m F) : Con Tryz.prog Tryz.L 17 [matD n m F] (.tup [.int .i64 (redM n F m).lead.length, .int .i64 0]) := by
  refine rule17 Tryz.hL rfl rfl rfl ?_
  (simp only [pc17, rs17, oU, oC]; refine ev ?_; try with_reducible exact trivial)
  refine callF_of (Tryz.mcheck n m F hn hm hr) ?_
  (refine ev ?_; try with_reducible exact trivial)
  refine callF_of (Tryz.mcolumns n m F (by omega) h0) ?_
  (refine ev ?_; try with_reducible exact trivial)
  refine callF_of (Tryz.mred n m m F hn (by omega) (Nat.le_refl _) h0 hb) ?_
  (refine ev ?_; try with_reducible exact trivial)
  rfl
theorem rowsD_take (n m r : Nat) (F : Mtx) (h : r ≤ n) : (rowsD n m F).take r = rowsD r m F := by
  apply List.ext_getElem?
  intro i
  rw [List.getElem?_take]
  by_cases hi : i < r
  · rw [if_pos hi]
    show (lst n _)[i]? = (lst r _)[i]?
    rw [lst_at _ (by omega), lst_at _ hi]
  · rw [if_neg hi, List.getElem?_eq_none (by rw [rowsD_len]; omega)]
theorem rowsD_cut (n m r : Nat) (F : Mtx) (h : r ≤ n) : Go.Pi.cut 1 0 r (rowsD n m F) = rowsD r m F := by
  unfold Go.Pi.cut
  simp only [Nat.zero_mul, Nat.mul_one, Nat.sub_zero, List.drop_zero]
  exact rowsD_take n m r F h
theorem Tryz.mreduce (n m : Nat) (F : Mtx) (hn : n ≤ 12) (hm : m ≤ 12) (h0 : n = 0 → m = 0) (hr : Rts n m F) (hb : Bnd n m m F) (hs : Rts (redM n F m).lead.length m (redM n F m).F) :
    Con Tryz.prog Tryz.L 13 [matD n m F] (.tup [matD (redM n F m).lead.length m (redM n F m).F, .sl (redM n F m).lead.length ((redM n F m).lead.map fun c : Nat => .int .i64 c), .int .i64 0]) := by
  have hle := lead_len (n := n) (w := m) F
  refine rule13 Tryz.hL rfl rfl rfl ?_
  (simp only [pc13, rs13, oU, oC]; refine ev ?_; try with_reducible exact trivial)
  refine callF_of (Tryz.mcheck n m F hn hm hr) ?_
  (refine ev ?_; try with_reducible exact trivial)
  refine callF_of (Tryz.mcolumns n m F (by omega) h0) ?_
  (refine ev ?_; try with_reducible exact trivial)
  refine callF_of (Tryz.mred n m m F hn (by omega) (Nat.le_refl _) h0 hb) ?_
  (refine ev ?_; try with_reducible exact trivial)
  refine ⟨by omega, by omega, by omega, (rowsD_len ..).symm, ?_⟩
  rw [rowsD_cut n m _ _ hle]
  refine callF_of (Tryz.mresult _ m _ (by omega) (by omega) hs) ?_
  (refine ev ?_; try with_reducible exact trivial)
  rfl
theorem Tryz.msquare (n : Nat) (F : Mtx) (hn : n ≤ 12) (hr : Rts n n F) : Con Tryz.prog Tryz.L 43 [matD n n F] (.int .i64 0) := by
  refine rule43 Tryz.hL rfl rfl rfl ?_
  (simp only [pc43, rs43, oU, oC]; refine ev ?_; try with_reducible exact trivial)
  refine callF_of (Tryz.mcheck n n F hn hn hr) ?_
  (refine ev ?_; try with_reducible exact trivial)
  refine callF_of (Tryz.mcolumns n n F (by omega) id) ?_
  (refine ev ?_; try with_reducible exact trivial)
theorem Tryz.msquareN (n m : Nat) (F : Mtx) (hn : n ≤ 12) (hm : m ≤ 12) (h0 : n = 0 → m = 0) (hne : n ≠ m) (hr : Rts n m F) : Con Tryz.prog Tryz.L 43 [matD n m F] (.int .i64 5) := by
  refine rule43 Tryz.hL rfl rfl rfl ?_
  (simp only [pc43, rs43, oU, oC]; refine ev ?_; try with_reducible exact trivial)
  refine callF_of (Tryz.mcheck n m F hn hm hr) ?_
  (refine ev ?_; try with_reducible exact trivial)
  refine callF_of (Tryz.mcolumns n m F (by omega) h0) ?_
  (refine ev ?_; try with_reducible exact trivial)
  exact fun h => absurd h (by omega)
theorem rep_red3 {S : Nat → Nat → Prop} {w : World} {d : D} {k : Nat} {ds : List D} {l : List UInt8} {v : Value} (h : Rep S w (.tup [d, .sl k ds, .str l]) v) : ∃ x ad cp, v = .tuple #[x, .slice ad k cp, .string ⟨l.toArray⟩] := by
  cases h with
  | tup _ vs hl h =>
    match vs, hl, h with
    | [x, y, z], _, h =>
      have h1 := h 1 _ _ rfl rfl
      have h2 := (h 2 _ _ rfl rfl).str_inv.1
      obtain ⟨a, c, rfl⟩ : ∃ a c, y = .slice a k c := by cases h1 <;> exact ⟨_, _, rfl⟩
      exact ⟨x, a, c, by rw [h2]⟩
/-- a literal of one row of one number -/
theorem rep_lit11 {W : World} {e1 e2 : TypeId} {l : List UInt8} (hl : l.length ≤ maxLen) :
    Rep (fun b _ => b < ((W.alloc (.cells #[.string ⟨l.toArray⟩] e1)).alloc (.cells #[.slice (some ⟨W.heap.size, 0, none⟩) 1 1] e2)).heap.size) ((W.alloc (.cells #[.string ⟨l.toArray⟩] e1)).alloc (.cells #[.slice (some ⟨W.heap.size, 0, none⟩) 1 1] e2))
      (.sl 1 [.sl 1 [.str l]]) (.slice (some ⟨W.heap.size + 1, 0, none⟩) 1 1) := by
  have s1 : (W.alloc (.cells #[.string ⟨l.toArray⟩] e1)).heap.size = W.heap.size + 1 := by simp
  have c1 : (W.alloc (.cells #[.string ⟨l.toArray⟩] e1)).cell? ⟨W.heap.size, 0, none⟩ = some (.string ⟨l.toArray⟩) := by rw [Lib.cell_of_heap (heap_alloc_new W _)]; rfl
  have c2 : ((W.alloc (.cells #[.string ⟨l.toArray⟩] e1)).alloc (.cells #[.slice (some ⟨W.heap.size, 0, none⟩) 1 1] e2)).cell? ⟨W.heap.size, 0, none⟩ = some (.string ⟨l.toArray⟩) := (World.cell?_alloc_some _ _ _ (by rw [c1]; rfl)).trans c1
  have h3 := heap_alloc_new (W.alloc (.cells #[.string ⟨l.toArray⟩] e1)) (.cells #[.slice (some ⟨W.heap.size, 0, none⟩) 1 1] e2)
  rw [s1] at h3
  have c3 : ((W.alloc (.cells #[.string ⟨l.toArray⟩] e1)).alloc (.cells #[.slice (some ⟨W.heap.size, 0, none⟩) 1 1] e2)).cell? ⟨W.heap.size + 1, 0, none⟩ = some (.slice (some ⟨W.heap.size, 0, none⟩) 1 1) := by rw [Lib.cell_of_heap h3]; rfl
  have s2 : ((W.alloc (.cells #[.string ⟨l.toArray⟩] e1)).alloc (.cells #[.slice (some ⟨W.heap.size, 0, none⟩) 1 1] e2)).heap.size = W.heap.size + 2 := by simp
  generalize ((W.alloc (.cells #[.string ⟨l.toArray⟩] e1)).alloc (.cells #[.slice (some ⟨W.heap.size, 0, none⟩) 1 1] e2)) = W3 at *
  refine .sl 1 _ _ 0 1 [.slice (some ⟨W.heap.size, 0, none⟩) 1 1] rfl (by simp [D.one]) (Nat.le_refl _) (by decide) (fun i u hu => ?_) (fun i d u hd hu => ?_)
  · match i with
    | 0 => cases hu; exact ⟨by show W.heap.size + 1 < W3.heap.size; omega, c3⟩
    | i + 1 => simp at hu
  · match i with
    | 0 =>
      cases hd; cases hu
      refine .sl 1 _ _ 0 1 [.string ⟨l.toArray⟩] rfl (by simp [D.one]) (Nat.le_refl _) (by decide) (fun i u hu => ?_) (fun i d u hd hu => ?_)
      · match i with
        | 0 => cases hu; exact ⟨by show W.heap.size < W3.heap.size; omega, c2⟩
        | i + 1 => simp at hu
      · match i with
        | 0 => cases hd; cases hu; exact .str l hl
        | i + 1 => simp at hu
    | i + 1 => simp at hu
set_option maxRecDepth 100000 in
set_option maxHeartbeats 4000000 in
theorem Tryz.mdet (n : Nat) (F : Mtx) (hn : n ≤ 12) (hr : Rts n n F) (hb : Bnd n n n F) (hs : rd (redM n F n).fac ≤ 200) : Con Tryz.prog Tryz.L 18 [matD n n F] (.tup [.str (rt (detM n F)), .int .i64 0]) := by
  have mixed : Tryz.prog.follows .mixedOrders = true := by kernel_rfl
  have t0 := Tryz.underlying28; have a0 := Tryz.isAgg28; have z0 := Tryz.sizeOf28; have v0 := Tryz.zeroValue28; have u0 := run_underlying Tryz.underlying28
  have t1 := Tryz.underlying49; have a1 := Tryz.isAgg49; have z1 := Tryz.sizeOf49; have v1 := Tryz.zeroValue49; have u1 := run_underlying Tryz.underlying49
  have t2 := Tryz.underlying42; have a2 := Tryz.isAgg42; have z2 := Tryz.sizeOf42; have v2 := Tryz.zeroValue42; have u2 := run_underlying Tryz.underlying42
  have t3 := Tryz.underlying4; have a3 := Tryz.isAgg4; have z3 := Tryz.sizeOf4; have v3 := Tryz.zeroValue4; have u3 := run_underlying Tryz.underlying4
  have t4 := Tryz.underlying3; have a4 := Tryz.isAgg3; have z4 := Tryz.sizeOf3; have v4 := Tryz.zeroValue3; have u4 := run_underlying Tryz.underlying3
  have t5 := Tryz.underlying30; have a5 := Tryz.isAgg30; have z5 := Tryz.sizeOf30; have v5 := Tryz.zeroValue30; have u5 := run_underlying Tryz.underlying30
  have t6 := Tryz.underlying31; have a6 := Tryz.isAgg31; have z6 := Tryz.sizeOf31; have v6 := Tryz.zeroValue31; have u6 := run_underlying Tryz.underlying31
  have hle := lead_len (n := n) (w := n) F
  refine ⟨⟨by kernel_rfl, rfl⟩, fun S W vs hS hL hrep => ?_⟩
  obtain ⟨vm, r1, rfl, hrm, t1'⟩ := hrep.uncons
  obtain rfl : r1 = [] := List.length_eq_zero_iff.1 t1'.1.symm
  clear t1' hrep
  obtain ⟨am, cm, rfl⟩ : ∃ a cap, vm = .slice a n cap := by
    generalize hd : rowsD n n F = ds at hrm
    cases hrm <;> exact ⟨_, _, rfl⟩
  have hsq := (Tryz.msquare n F hn hr).2 S W [.slice am n cm] hS hL (Reps.cons hrm .nil)
  have hrd := fun (W1 : World) (hb1 : Below W.heap.size W W1) => (Tryz.mred n n n F hn (by omega) (Nat.le_refl _) id hb).2 S W1 [.slice am n cm, .int .i64 n] (fun b j h => Nat.lt_of_lt_of_le (hS b j h) hb1.size) (Tryz.hL W W1 hL hb1) (Reps.cons (hrm.mono (fun _ _ z => z) (fun b o z => hb1.cell (p := ⟨b, o, none⟩) (hS b o z))) (Reps.cons (.int _ _) .nil))
  show Calls _ _ #[.slice am n cm] _ _
  have hsh := Tryz.mshort 1 1 (fun _ _ => (redM n F n).fac) (by decide) (by decide) (fun _ _ _ _ => hs)
  have HD : Hid (detM n F = if (redM n F n).lead.length < n then 0 else (redM n F n).fac) := rfl
  generalize redM n F n = s at *
  generalize detM n F = dt at *
  have HL := hL
  have hlf : (rt s.fac).length ≤ maxLen := by have := rt_len s.fac; unfold maxLen; omega
  have hfin : ∀ (W' : World) (q : Rat), dt = q → rd q ≤ 200 → Res Tryz.prog S W W' (.tup [.str (rt dt), .int .i64 0]) (.tuple #[.string ⟨(rt q).toArray⟩, .int .i64 0]) := fun W' q e hq => by
    subst e
    refine .tup _ [_, _] rfl ?_
    intro i d u hd hu
    match i with
    | 0 => cases hd; cases hu; exact .str _ (by have := rt_len dt; unfold maxLen; omega)
    | 1 => cases hd; cases hu; exact .int _ _
    | k + 2 => simp at hd
  by_cases hlt : s.lead.length < n
  · have hq : dt = 0 := by rw [HD.out, if_pos hlt]
    have HF : Hid (∀ W' : World, Res Tryz.prog S W W' (.tup [.str (rt dt), .int .i64 0]) (.tuple #[.string ⟨#[48]⟩, .int .i64 0])) := fun W' => by
      have := hfin W' 0 hq (by decide +kernel)
      rw [rt_zero.2 rfl] at this
      exact this
    clear hfin hq
    go_enter Tryz.func18, Tryz.ntmps18
    go_wp2_with (first
      | (go_at_call 43; refine Calls.mono hsq ?_; rintro e W1 ⟨v1, rfl, hb1, hr1⟩; obtain rfl : v1 = .int .i64 0 := (by cases hr1; rfl); clear hr1 hsq)
      | (go_at_call 40; refine Calls.mono (hrd _ hb1) ?_; rintro e W2 ⟨v2, rfl, hb2, hr2⟩; obtain ⟨x1, ad, cp, rfl⟩ := rep_red3 hr2; clear hr2 hrd))
    go_ret2
    exact ⟨_, rfl, hb1.trans (hb2.mono hb1.size), HF.out _⟩
  · have hq : dt = s.fac := by rw [HD.out, if_neg hlt]
    have HF : Hid (∀ W' : World, Res Tryz.prog S W W' (.tup [.str (rt dt), .int .i64 0]) (.tuple #[.string ⟨(rt s.fac).toArray⟩, .int .i64 0])) := fun W' => hfin W' _ hq hs
    clear hfin hq
    go_enter Tryz.func18, Tryz.ntmps18
    go_wp2_with (first
      | (go_at_call 43; refine Calls.mono hsq ?_; rintro e W1 ⟨v1, rfl, hb1, hr1⟩; obtain rfl : v1 = .int .i64 0 := (by cases hr1; rfl); clear hr1 hsq)
      | (go_at_call 40; refine Calls.mono (hrd _ hb1) ?_; rintro e W2 ⟨v2, rfl, hb2, hr2⟩; obtain ⟨x1, ad, cp, rfl⟩ := rep_red3 hr2; clear hr2 hrd; have hb3 : Below W.heap.size W ((W2.alloc (.cells #[.string ⟨(rt s.fac).toArray⟩] 42)).alloc (.cells #[.slice (some ⟨W2.heap.size, 0, none⟩) 1 1] 49)) := (((hb1.trans (hb2.mono hb1.size)).alloc (by have := hb1.size; have := hb2.size; omega) _).alloc (by have := hb1.size; have := hb2.size; simp; omega) _))
      | (go_at_call 46; refine Calls.mono (hsh.2 _ _ [_] (fun _ _ h => h) (Tryz.hL W _ HL hb3) (Reps.cons (rep_lit11 hlf) .nil)) ?_; rintro e W4 ⟨v4, rfl, hb4, hr4⟩; obtain rfl : v4 = .int .i64 0 := (by cases hr4; rfl); clear hr4))
    go_ret2
    exact ⟨_, rfl, hb3.trans (hb4.mono hb3.size), HF.out _⟩
end Go.Proofs

/-
  MATRIX: lists of texts; list, Apply, Identity, Transpose, Mul. Own work.
-/
namespace Go.Proofs
open Go Go.Pi Go.RowKit Go.Shelf Go.Ar Go.Mx

/-- texts as data -/
abbrev txs (l : List (List UInt8)) : List D := l.map .str
/-- the number of a right text -/
noncomputable def val (s : List UInt8) : Rat := @dite _ (∃ q, s = rt q) (Classical.propDecidable _) (fun h => h.choose) (fun _ => 0)
noncomputable def vals (l : List (List UInt8)) : Nat → Rat := fun k => val (l.getD k [])
theorem Tryz.mlist0 (n : Nat) (x : Nat → Rat) (hn : n ≤ 1000) (h : Rt n x) : Con Tryz.prog Tryz.L 51 [rowD n x, .int .i64 n] (.int .i64 0) := by
  refine rule51 Tryz.hL rfl rfl rfl ?_
  (simp only [pc51, rs51, oU, oC]; refine ev ?_; try with_reducible exact trivial)
  refine callF_of (Tryz.mnumbers n x hn h) ?_
  (refine ev ?_; try with_reducible exact trivial)
def SzA (n m : Nat) (F : Mtx) (x : Nat → Rat) : Prop := (∀ i, i < n → ∀ j, j < m → rd (F i j) + rd (x j) ≤ 4000) ∧ (∀ i, i < n → ∀ k, k ≤ m → rd (dotM k (F i) x) ≤ 5000)
end Go.Proofs

/-
  MATRIX: cells of data; overwriting at leading columns. Own work.
-/
namespace Go.Proofs
open Go Go.Pi Go.RowKit Go.Shelf Go.Ar Go.Mx

theorem mat_cells {S : Nat → Nat → Prop} {W : World} {n m : Nat} {F : Mtx} {v : Value} (h : Rep S W (matD n m F) v) (hn : 0 < n) (hm : 0 < m) :
    ∃ (b o cap : Nat) (bv ov cv : Nat → Nat), v = .slice (some ⟨b, o, none⟩) n cap ∧ n ≤ cap ∧ ∀ k, k < n → S b (o + k) ∧ W.cell? ⟨b, o + k, none⟩ = some (.slice (some ⟨bv k, ov k, none⟩) m (cv k)) ∧ ∀ j, j < m → S (bv k) (ov k + j) ∧ W.cell? ⟨bv k, ov k + j, none⟩ = some (.string ⟨(rt (F k j)).toArray⟩) := by
  generalize hd : rowsD n m F = ds at h
  cases h with
  | sl0 => omega
  | sl _ _ b off cap vs hl h1 hnn hc hr h =>
    subst hd
    rw [rowsD_len] at hl
    have key : ∀ k, ∃ (b1 o1 c1 : Nat), k < n → S b (off + k) ∧ W.cell? ⟨b, off + k, none⟩ = some (.slice (some ⟨b1, o1, none⟩) m c1) ∧ ∀ j, j < m → S b1 (o1 + j) ∧ W.cell? ⟨b1, o1 + j, none⟩ = some (.string ⟨(rt (F k j)).toArray⟩) := by
      intro k
      by_cases hk : k < n
      · have hv : vs[k]? = some vs[k] := List.getElem?_eq_getElem (by omega)
        have hrk := h k _ _ (lst_at _ hk) hv
        have hck := hr k _ hv
        generalize vs[k] = v at *
        generalize hd : strs m (F k) = ds at hrk
        cases hrk with
        | sl0 => omega
        | sl _ _ b1 o1 c1 us hl1 _ _ _ hr1 h1 =>
          subst hd
          rw [strs_len] at hl1
          refine ⟨b1, o1, c1, fun _ => ⟨hck.1, hck.2, fun j hj => ?_⟩⟩
          have hu : us[j]? = some us[j] := List.getElem?_eq_getElem (by omega)
          have := (h1 j _ _ (lst_at _ hj) hu).str_inv.1
          rw [this] at hu
          exact hr1 j _ hu
      · exact ⟨0, 0, 0, fun h => absurd h hk⟩
    exact ⟨b, off, cap, fun k => (key k).choose, fun k => (key k).choose_spec.choose, fun k => (key k).choose_spec.choose_spec.choose, rfl, hnn, fun k hk => (key k).choose_spec.choose_spec.choose_spec hk⟩
theorem str_cells {S : Nat → Nat → Prop} {W : World} {m : Nat} {r : Nat → Rat} {v : Value} (h : Rep S W (rowD m r) v) (hm : 0 < m) :
    ∃ (b o cap : Nat), v = .slice (some ⟨b, o, none⟩) m cap ∧ ∀ j, j < m → S b (o + j) ∧ W.cell? ⟨b, o + j, none⟩ = some (.string ⟨(rt (r j)).toArray⟩) := by
  generalize hd : strs m r = ds at h
  cases h with
  | sl0 => omega
  | sl _ _ b1 o1 c1 us hl1 _ _ _ hr1 h1 =>
    subst hd
    rw [strs_len] at hl1
    refine ⟨b1, o1, c1, rfl, fun j hj => ?_⟩
    have hu : us[j]? = some us[j] := List.getElem?_eq_getElem (by omega)
    have := (h1 j _ _ (lst_at _ hj) hu).str_inv.1
    rw [this] at hu
    exact hr1 j _ hu
theorem nat_cells {S : Nat → Nat → Prop} {W : World} {l : List Nat} {v : Value} (h : Rep S W (.sl l.length (l.map fun x : Nat => .int .i64 x)) v) :
    ∃ (b o cap : Nat) (ad : Option Addr), v = .slice ad l.length cap ∧ (0 < l.length → ad = some ⟨b, o, none⟩) ∧ ∀ t, t < l.length → S b (o + t) ∧ W.cell? ⟨b, o + t, none⟩ = some (.int .i64 ((l.getD t 0 : Nat) : Int)) := by
  generalize hd : (l.map fun x : Nat => D.int .i64 x) = ds at h
  generalize hk : l.length = k at h
  cases h with
  | sl0 a cap hc => exact ⟨0, 0, cap, a, rfl, fun h => absurd h (by omega), fun t ht => absurd ht (by omega)⟩
  | slN => exact ⟨0, 0, 0, none, rfl, fun h => absurd h (by omega), fun t ht => absurd ht (by omega)⟩
  | sl _ _ b1 o1 c1 us hl1 _ _ _ hr1 h1 =>
    subst hd
    rw [List.length_map] at hl1
    refine ⟨b1, o1, c1, some ⟨b1, o1, none⟩, rfl, fun _ => rfl, fun t ht => ?_⟩
    have hu : us[t]? = some us[t] := List.getElem?_eq_getElem (by omega)
    have hd : (l.map fun x : Nat => D.int .i64 x)[t]? = some (.int .i64 ((l.getD t 0 : Nat) : Int)) := by
      rw [List.getElem?_map, List.getD_eq_getElem?_getD, List.getElem?_eq_getElem (by omega)]; rfl
    have := (h1 t _ _ hd hu).int_inv
    rw [this] at hu
    exact hr1 t _ hu
theorem OwnQ.rep {W : World} {S : Nat → Nat → Prop} {base eR eS n m : Nat} {v : Value} {B C : Nat → Nat} {f : Nat → Nat → List UInt8} (h : OwnQ W base eR eS v n m B C (fun i j => .string ⟨(f i j).toArray⟩)) (hne : eR ≠ eS) (hl : ∀ i, i < n → ∀ j, j < m → (f i j).length ≤ maxLen) (hS : ∀ b j, base ≤ b → b < W.heap.size → S b j) :
    Rep S W (.sl n (lst n fun i => .sl m (lst m fun j => .str (f i j)))) v := by
  rcases Nat.eq_zero_or_pos n with h0 | h0
  · subst h0
    rcases h.1.2 with ⟨rfl, _⟩ | ⟨g, cap, cur, rfl, _, _, _, hc, _⟩
    · exact .sl0 _ _ (Nat.zero_le _)
    · exact .sl0 _ _ hc
  · obtain ⟨g, cap, rfl, hM⟩ := h.whole h0 hne
    exact hM.rep hl hS
/-- a literal of one part -/
theorem rep_one {S : Nat → Nat → Prop} {W : World} {e : TypeId} {d : D} {v : Value} (h1 : d.one = true) (hv : v.oneCell' = true) (hS : S W.heap.size 0) (h : Rep S (W.alloc (.cells #[v] e)) d v) :
    Rep S (W.alloc (.cells #[v] e)) (.sl 1 [d]) (.slice (some ⟨W.heap.size, 0, none⟩) 1 1) := by
  refine .sl 1 _ _ 0 1 [v] rfl (by simpa using h1) (Nat.le_refl _) (by decide) (fun i u hu => ?_) (fun i d' u hd hu => ?_)
  · match i with
    | 0 => cases hu; exact ⟨hS, by rw [Lib.cell_of_heap (heap_alloc_new W _)]; rfl⟩
    | i + 1 => simp at hu
  · match i with
    | 0 => cases hd; cases hu; exact h
    | i + 1 => simp at hu

/-- numbers overwritten at places -/
def ovr (l : List Nat) (base v : Nat → Rat) : Nat → Rat := fun j => match posn l j with
  | some t => v t
  | none => base j
theorem posn_take {l : List Nat} (h : l.Pairwise (· < ·)) {t : Nat} (ht : t < l.length) (j : Nat) : posn (l.take (t + 1)) j = if j = l.getD t 0 then some t else posn (l.take t) j := by
  have e : l[t]? = some (l.getD t 0) := by rw [List.getD_eq_getElem?_getD, List.getElem?_eq_getElem ht]; rfl
  have hp : (l.take (t + 1)).Pairwise (· < ·) := h.sublist (List.take_sublist _ _)
  split
  · rename_i hj
    subst hj
    exact posn_of hp (by rw [List.getElem?_take, if_pos (Nat.lt_succ_self t)]; exact e)
  · rename_i hj
    cases hq : posn (l.take t) j with
    | some u =>
      have hu := posn_some hq
      rw [List.getElem?_take] at hu
      split at hu
      · exact posn_of hp (by rw [List.getElem?_take, if_pos (by omega)]; exact hu)
      · cases hu
    | none =>
      rw [posn_none] at hq ⊢
      intro hm
      obtain ⟨u, hu⟩ := List.getElem?_of_mem hm
      rw [List.getElem?_take] at hu
      split at hu
      · by_cases eu : u = t
        · subst eu; rw [e] at hu; cases hu; exact hj rfl
        · exact hq (List.mem_of_getElem? (show (l.take t)[u]? = some j by rw [List.getElem?_take, if_pos (by omega)]; exact hu))
      · cases hu
theorem ovr_step {l : List Nat} (h : l.Pairwise (· < ·)) {t : Nat} (ht : t < l.length) (base v : Nat → Rat) : (fun i => if i = l.getD t 0 then v t else ovr (l.take t) base v i) = ovr (l.take (t + 1)) base v := by
  funext i
  unfold ovr
  rw [posn_take h ht i]
  by_cases e : i = l.getD t 0
  · rw [if_pos e, if_pos e]
  · rw [if_neg e, if_neg e]
theorem solV_ovr (s : RSt) (m : Nat) : solV s m = ovr s.lead (fun _ => 0) (fun t => s.F t m) := rfl
end Go.Proofs

/-
  MATRIX: Solve, in the plain walk. Own work.
-/
namespace Go.Proofs
open Go Go.Pi Go.RowKit Go.Shelf Go.Ar Go.Mx

/-- the rows below the leading ones have 0 on the right -/
def okS (n m : Nat) (s : RSt) : Prop := ∀ i, s.lead.length ≤ i → i < n → s.F i m = 0
noncomputable def solD (n m : Nat) (s : RSt) : D := @ite D (okS n m s) (Classical.propDecidable _) (.tup [rowD m (solV s m), .int .i64 (if s.lead.length < m then 2 else 1), .int .i64 0]) (.tup [.sl 0 [], .int .i64 3, .int .i64 0])
theorem rep_tup3 {S : Nat → Nat → Prop} {w : World} {d1 d2 : D} {l : List UInt8} {v : Value} (h : Rep S w (.tup [d1, d2, .str l]) v) : ∃ x y, v = .tuple #[x, y, .string ⟨l.toArray⟩] ∧ Rep S w d1 x ∧ Rep S w d2 y := by
  cases h with
  | tup _ vs hl h =>
    match vs, hl, h with
    | [x, y, z], _, h => exact ⟨x, y, by rw [(h 2 _ _ rfl rfl).str_inv.1], h 0 _ _ rfl rfl, h 1 _ _ rfl rfl⟩
set_option maxRecDepth 100000 in
set_option maxHeartbeats 8000000 in
theorem Tryz.msolveW (n m : Nat) (F : Mtx) (y : Nat → Rat) (hn1 : 0 < n) (hn : n ≤ 12) (hm : m ≤ 12) (hr : Rts n m F) (hy : Rt n y) (hb : Bnd n (m + 1) m (wideM m F fun i _ => y i)) (hs : okS n m (redM n (wideM m F fun i _ => y i) m) → Rt m (solV (redM n (wideM m F fun i _ => y i) m) m)) :
    Con Tryz.prog Tryz.L 28 [matD n m F, rowD n y] (solD n m (redM n (wideM m F fun i _ => y i) m)) := by
  have mixed : Tryz.prog.follows .mixedOrders = true := by kernel_rfl
  have t0 := Tryz.underlying28; have a0 := Tryz.isAgg28; have z0 := Tryz.sizeOf28; have v0 := Tryz.zeroValue28; have u0 := run_underlying Tryz.underlying28
  have t1 := Tryz.underlying49; have a1 := Tryz.isAgg49; have z1 := Tryz.sizeOf49; have v1 := Tryz.zeroValue49; have u1 := run_underlying Tryz.underlying49
  have t2 := Tryz.underlying42; have a2 := Tryz.isAgg42; have z2 := Tryz.sizeOf42; have v2 := Tryz.zeroValue42; have u2 := run_underlying Tryz.underlying42
  have t3 := Tryz.underlying4; have a3 := Tryz.isAgg4; have z3 := Tryz.sizeOf4; have v3 := Tryz.zeroValue4; have u3 := run_underlying Tryz.underlying4
  have t4 := Tryz.underlying3; have a4 := Tryz.isAgg3; have z4 := Tryz.sizeOf3; have v4 := Tryz.zeroValue3; have u4 := run_underlying Tryz.underlying3
  have t5 := Tryz.underlying30; have a5 := Tryz.isAgg30; have z5 := Tryz.sizeOf30; have v5 := Tryz.zeroValue30; have u5 := run_underlying Tryz.underlying30
  have t6 := Tryz.underlying31; have a6 := Tryz.isAgg31; have z6 := Tryz.sizeOf31; have v6 := Tryz.zeroValue31; have u6 := run_underlying Tryz.underlying31
  have t7 := Tryz.underlying27; have a7 := Tryz.isAgg27; have z7 := Tryz.sizeOf27; have v7 := Tryz.zeroValue27; have u7 := run_underlying Tryz.underlying27
  obtain ⟨ir, hir, hirr⟩ := Option.map_eq_some_iff.1 Tryz.infoRow
  simp only [Prod.mk.injEq] at hirr
  have hle := lead_len (n := n) (w := m) (wideM m F fun i _ => y i)
  have hlw := lead_w (n := n) (w := m) (wideM m F fun i _ => y i)
  have hgd := good_red n (wideM m F fun i _ => y i) m
  refine ⟨⟨by kernel_rfl, by unfold solD; split <;> rfl⟩, fun S W vs hS hL hrep => ?_⟩
  obtain ⟨vm, r1, rfl, hrm, t1'⟩ := hrep.uncons
  obtain ⟨vr, r2, rfl, hrr, t2'⟩ := t1'.uncons
  obtain rfl : r2 = [] := List.length_eq_zero_iff.1 t2'.1.symm
  clear t1' t2' hrep
  obtain ⟨br, or, cr, rfl, hrow⟩ := str_cells hrr hn1
  obtain ⟨am, cm, rfl⟩ : ∃ a cap, vm = .slice a n cap := by
    generalize hd : rowsD n m F = ds at hrm
    cases hrm <;> exact ⟨_, _, rfl⟩
  have hck := (Tryz.mcheck n m F hn hm hr).2 S W [.slice am n cm] hS hL (Reps.cons hrm .nil)
  have hli := fun (W1 : World) (hb1 : Below W.heap.size W W1) => (Tryz.mlist0 n y (by omega) hy).2 S W1 [.slice (some ⟨br, or, none⟩) n cr, .int .i64 n] (fun b j h => Nat.lt_of_lt_of_le (hS b j h) hb1.size) (Tryz.hL W W1 hL hb1) (Reps.cons (hrr.mono (fun _ _ z => z) (fun b o z => hb1.cell (p := ⟨b, o, none⟩) (hS b o z))) (Reps.cons (.int _ _) .nil))
  have hco := fun (W1 : World) (hb1 : Below W.heap.size W W1) => (Tryz.mcolumns n m F (by omega) (by omega)).2 S W1 [.slice am n cm] (fun b j h => Nat.lt_of_lt_of_le (hS b j h) hb1.size) (Tryz.hL W W1 hL hb1) (Reps.cons (hrm.mono (fun _ _ z => z) (fun b o z => hb1.cell (p := ⟨b, o, none⟩) (hS b o z))) .nil)
  have hbe := fun (S1 : Nat → Nat → Prop) (W1 : World) (v : Value) (h1 : ∀ b j, S1 b j → b < W1.heap.size) (hb1 : Below W.heap.size W W1) (h2 : ∀ b j, S b j → S1 b j) (h3 : Rep S1 W1 (matD n 1 fun i _ => y i) v) => (Con.flat (Tryz.mbeside n m 1 F (fun i _ => y i) (by omega) (by omega) (by decide))).2 S1 W1 [.slice am n cm, v] h1 (Tryz.hL W W1 hL hb1) (Reps.cons (hrm.mono h2 (fun b o z => hb1.cell (p := ⟨b, o, none⟩) (hS b o z))) (Reps.cons h3 .nil))
  have hre := fun (S1 : Nat → Nat → Prop) (W1 : World) (v : Value) (h1 : ∀ b j, S1 b j → b < W1.heap.size) (hb1 : Below W.heap.size W W1) (h3 : Rep S1 W1 (matD n (m + 1) (wideM m F fun i _ => y i)) v) => (Tryz.mred n (m + 1) m (wideM m F fun i _ => y i) hn (by omega) (by omega) (by omega) hb).2 S1 W1 [v, .int .i64 m] h1 (Tryz.hL W W1 hL hb1) (Reps.cons h3 (Reps.cons (.int _ _) .nil))
  have HR : Hid (∀ k, k < n → br < W.heap.size ∧ W.cell? ⟨br, or + k, none⟩ = some (.string ⟨(rt (y k)).toArray⟩)) := fun k hk => ⟨hS _ _ (hrow k hk).1, (hrow k hk).2⟩
  have HY : Hid (∀ k, k < n → (rt (y k)).length ≤ maxLen) := fun k hk => by have := rt_len (y k); have := hy k hk; unfold maxLen; omega
  have HSS : Hid (∀ b j, S b j → b < W.heap.size) := hS
  generalize redM n (wideM m F fun i _ => y i) m = s at *
  clear hrow hrm hrr hr hy hb hS
  show Calls _ _ #[.slice am n cm, .slice (some ⟨br, or, none⟩) n cr] _ _
  go_enter Tryz.func28, Tryz.ntmps28
  go_wp2_with (first
    | (go_at_call 39; refine Calls.mono hck ?_; rintro e W1 ⟨v1, rfl, hb1, hr1⟩; obtain rfl : v1 = .int .i64 0 := (by cases hr1; rfl); clear hr1 hck)
    | (go_at_call 51; refine Calls.mono (hli _ hb1) ?_; rintro e W2 ⟨v2, rfl, hb2, hr2⟩; obtain rfl : v2 = .int .i64 0 := (by cases hr2; rfl); clear hr2 hli))
  have hb3 := hb1.trans (hb2.mono hb1.size)
  clear hb1 hb2
  go_loopg [35, 9] n (fun gg s35 s9 wr => ∃ (k : Nat) (B C : Nat → Nat), s35 = .int .i64 k ∧ k ≤ n ∧ n ≤ gg + k ∧ OwnQ wr W.heap.size 49 42 s9 k 1 B C (fun i _ => .string ⟨(rt (y i)).toArray⟩) ∧ Below W.heap.size W wr)
  case atStart => exact ⟨0, fun _ => 0, fun _ => 0, rfl, by omega, by omega, ⟨World.ownsRow_nil _ _ _ _, fun _ h => absurd h (by omega), fun _ _ h => absurd h (by omega)⟩, hb3⟩
  case round =>
    obtain ⟨k, B, C, rfl, hk, hgk, hq, hbw⟩ := hrel
    by_cases hlt : k < n
    · have ck := (hbw.cell (p := ⟨br, or + k, none⟩) (HR.out k hlt).1).trans (HR.out k hlt).2
      have hkz : (k : Int) < (n : Int) := by omega
      have hk0 : (0 : Int) ≤ (k : Int) := Int.natCast_nonneg _
      have hbs := hbw.size
      obtain ⟨q1, q2, q3⟩ := hq
      have HQ : Hid ((∀ i, i < k → wr.ownsRow W.heap.size 42 1 (.slice (some ⟨B i, 0, none⟩) 1 (C i)) 1 (lst 1 fun _ => .string ⟨(rt (y i)).toArray⟩)) ∧ (∀ i j, i < k → j < k → B i = B j → i = j)) := ⟨q2, q3⟩
      have ho1 : (wr.alloc (.cells #[.string ⟨(rt (y k)).toArray⟩] 42)).ownsRow wr.heap.size 42 1 (.slice (some ⟨wr.heap.size, 0, none⟩) 1 1) 1 (lst 1 fun _ => .string ⟨(rt (y k)).toArray⟩) := ⟨rfl, .inr ⟨wr.heap.size, 1, #[.string ⟨(rt (y k)).toArray⟩], rfl, Nat.le_refl _, heap_alloc_new wr _, Nat.le_refl _, by decide, rfl, rfl⟩⟩
      have hba : Below wr.heap.size wr (wr.alloc (.cells #[.string ⟨(rt (y k)).toArray⟩] 42)) := (Below.refl wr.heap.size wr).alloc (Nat.le_refl _) _
      have q11 := q1.kept (gr_below (r := none) hba) (Classical.em _)
      clear q2 q3
      go_wp2_with (first
        | (at_builtin; refine wpList_append_own _ rfl _ _ 28 rfl W.heap.size 49 ir (.slice none 0 0) 1 24 Tryz.underlying28 hir hirr.1 hirr.2.1 hirr.2.2 rfl (by decide) _ k _ rfl (q11.alloc _) ⟨wr.heap.size + 1, 0, none⟩ 1 1 [.slice (some ⟨wr.heap.size, 0, none⟩) 1 1] rfl rfl (World.news_of_block (by have := heap_alloc_new (wr.alloc (.cells #[.string ⟨(rt (y k)).toArray⟩] 42)) (.cells #[.slice (some ⟨wr.heap.size, 0, none⟩) 1 1] 49); rwa [show (wr.alloc (.cells #[.string ⟨(rt (y k)).toArray⟩] 42)).heap.size = wr.heap.size + 1 by simp] at this)) (by simp [Value.oneCell']) (by unfold maxLen; omega) (by omega) (by simp; omega) ?_; intro v5 w5 ho5 hg5 hn5))
      have hbl : Below W.heap.size W w5 := ((hbw.trans (hba.mono hbw.size)).alloc (by have := hba.size; omega) _).grown hg5 (by have := hba.size; simp; omega) (fun k hk => (q1.lt k hk).1)
      have hpush := OwnQ.push (X := fun i _ => .string ⟨(rt (y i)).toArray⟩) ⟨q1, HQ.out.1, HQ.out.2⟩ (by decide) hbw.size hba ho1 ho5 hg5
      go_roundg (n - (k + 1))
      case measure => omega
      case rel =>
        refine ⟨k + 1, fun i => if i = k then wr.heap.size else B i, fun i => if i = k then 1 else C i, by go_num, by omega, by omega, ?_, hbl⟩
        have e : (fun i => if i = k then (fun _ => Value.string ⟨(rt (y k)).toArray⟩) else fun _ => Value.string ⟨(rt (y i)).toArray⟩) = fun i (_ : Nat) => Value.string ⟨(rt (y i)).toArray⟩ := by
          funext i
          split
          · rename_i e; rw [e]
          · rfl
        rw [e] at hpush
        exact hpush
    · have hkz : ¬(k : Int) < (n : Int) := by omega
      obtain rfl : n = k := by omega
      obtain ⟨g, cap, rfl, hM⟩ := hq.whole hn1 (by decide)
      clear hq hkz hk hgk hb3
      obtain ⟨wb, hwb⟩ : ∃ wb, wb = wr := ⟨wr, rfl⟩
      subst hwb
      have hrz : (s.lead.length : Int) ≤ (n : Int) := by omega
      have hr0 : (0 : Int) ≤ (s.lead.length : Int) := Int.natCast_nonneg _
      have hmo := fun (W1 : World) (h1 : Below wb.heap.size wb W1) => OwnM.rep (S := fun b j => S b j ∨ (W.heap.size ≤ b ∧ b < W1.heap.size)) (f := fun i _ => rt (y i)) (hM.below h1) (fun i hi j _ => HY.out i hi) (fun b j x1 x2 => .inr ⟨x1, x2⟩)
      go_wp2_with (first
        | (go_at_call 41; refine Calls.mono (hco _ hbw) ?_; rintro e W3 ⟨v3, rfl, hb3, hr3⟩; obtain rfl : v3 = .int .i64 m := (by cases hr3; rfl); clear hr3 hco; have hb4 := hbw.trans (hb3.mono hbw.size); have hr4 := hmo W3 hb3)
        | (go_at_call 44; refine Calls.mono (hbe _ W3 _ (fun b j h => h.elim (fun h => Nat.lt_of_lt_of_le (HSS.out b j h) hb4.size) (fun h => h.2)) hb4 (fun _ _ h => .inl h) hr4) ?_; rintro e W5 ⟨v5, rfl, hb5, hr5⟩; have hb6 := hb4.trans (hb5.mono hb4.size); clear hbe hmo hr4)
        | (go_at_call 40; refine Calls.mono (hre _ W5 _ (fun b j h => h.elim (fun h => h.elim (fun h => Nat.lt_of_lt_of_le (HSS.out b j h) hb6.size) (fun h => Nat.lt_of_lt_of_le h.2 hb5.size)) (fun h => h.2)) hb6 hr5) ?_; rintro e W7 ⟨v7, rfl, hb7, hr7⟩; obtain ⟨x1, x2, rfl, hf7, hg7⟩ := rep_tup3 hr7; obtain ⟨bf, of, cf, bv, ov, cv, rfl, hfc, hF⟩ := mat_cells hf7 hn1 (Nat.succ_pos m); obtain ⟨bl, ol, cl, al, rfl, hal, hG⟩ := nat_cells hg7; have hfcz : (n : Int) ≤ (cf : Int) := (by omega); clear hre hr5 hr7 hf7 hg7))
      all_goals
        have hall : ∀ (b j : Nat), (((S b j ∨ W.heap.size ≤ b ∧ b < W3.heap.size) ∨ W3.heap.size ≤ b ∧ b < W5.heap.size) ∨ W5.heap.size ≤ b ∧ b < W7.heap.size) → b < W7.heap.size := fun b j h => by
          have a1 := hb6.size; have a2 := hb7.size; have a3 := hb5.size
          rcases h with ((h | h) | h) | h
          · have := HSS.out b j h; omega
          · omega
          · omega
          · omega
        have HF7 : Hid (∀ k, k < n → bf < W7.heap.size ∧ W7.cell? ⟨bf, of + k, none⟩ = some (.slice (some ⟨bv k, ov k, none⟩) (m + 1) (cv k)) ∧ ∀ j, j < m + 1 → bv k < W7.heap.size ∧ W7.cell? ⟨bv k, ov k + j, none⟩ = some (.string ⟨(rt (s.F k j)).toArray⟩)) := fun k hk => ⟨hall _ _ (hF k hk).1, (hF k hk).2.1, fun j hj => ⟨hall _ _ ((hF k hk).2.2 j hj).1, ((hF k hk).2.2 j hj).2⟩⟩
        have HG7 : Hid (∀ t, t < s.lead.length → bl < W7.heap.size ∧ W7.cell? ⟨bl, ol + t, none⟩ = some (.int .i64 ((s.lead.getD t 0 : Nat) : Int))) := fun t ht => ⟨hall _ _ (hG t ht).1, (hG t ht).2⟩
        have hb8 := hb6.trans (hb7.mono hb6.size)
        clear hall hF hG hM hb3 hb4 hb5 hb6 hb7 hbw
        have hm1 : (m : Int) < ((m + 1 : Nat) : Int) := by omega
        have hm2 : (m : Int) < (m : Int) + 1 := by omega
        have hm0 : (0 : Int) ≤ (m : Int) := Int.natCast_nonneg _
        go_loopg [61] (n - s.lead.length) (fun gg s61 wq => ∃ k : Nat, s61 = .int .i64 k ∧ k ≤ n - s.lead.length ∧ n - s.lead.length ≤ gg + k ∧ Hid (∀ i, s.lead.length ≤ i → i < s.lead.length + k → s.F i m = 0) ∧ wq = W7)
        case atStart => exact ⟨0, rfl, by omega, by omega, fun i h1 h2 => absurd h1 (by omega), rfl⟩
        case round =>
          obtain ⟨k, rfl, hk, hgk, HZ, rfl⟩ := hrel
          by_cases hlt2 : k < n - s.lead.length
          · first
            | (exfalso; omega)
            | (have cc := (HF7.out (s.lead.length + k) (by omega)).2.1
               rw [← Nat.add_assoc] at cc
               have cm2 := ((HF7.out (s.lead.length + k) (by omega)).2.2 m (by omega)).2
               have hkz : (k : Int) < ((n - s.lead.length : Nat) : Int) := by omega
               have hk0 : (0 : Int) ≤ (k : Int) := Int.natCast_nonneg _
               by_cases hz : s.F (s.lead.length + k) m = 0
               · rw [rt_zero.2 hz] at cm2
                 have HZ2 : Hid (s.F (s.lead.length + k) m = 0) := hz
                 clear hz
                 go_wp2
                 go_roundg (n - s.lead.length - (k + 1))
                 case measure => omega
                 case rel =>
                   refine ⟨k + 1, by go_num, by omega, by omega, fun i h1 h2 => ?_, rfl⟩
                   by_cases e : i = s.lead.length + k
                   · rw [e]; exact HZ2.out
                   · exact HZ.out i h1 (by omega)
               · have hzb : (rt (s.F (s.lead.length + k) m) == [48]) = false := by rw [Bool.eq_false_iff]; simp [rt_zero, hz]
                 have hno : ¬okS n m s := fun h => hz (h _ (by omega) (by omega))
                 have HD : Hid (solD n m s = .tup [.sl 0 [], .int .i64 3, .int .i64 0]) := by show _ = _; unfold solD; rw [if_neg hno]
                 clear hz
                 go_wp2
                 go_ret3
                 refine ⟨_, rfl, hb8, ?_⟩
                 rw [HD.out]
                 refine .tup _ [_, _, _] rfl ?_
                 intro i d u hd hu
                 match i with
                 | 0 => cases hd; cases hu; exact .sl0 _ _ (by decide)
                 | 1 => cases hd; cases hu; exact .int _ _
                 | 2 => cases hd; cases hu; exact .int _ _
                 | k + 3 => simp at hd)
          · have hkz : ¬(k : Int) < ((n - s.lead.length : Nat) : Int) := by omega
            have hok : okS n m s := fun i h1 h2 => HZ.out i h1 (by omega)
            have HD : Hid (solD n m s = .tup [rowD m (solV s m), .int .i64 (if s.lead.length < m then 2 else 1), .int .i64 0]) := by show _ = _; unfold solD; rw [if_pos hok]
            have hsl := hs hok
            clear hs HZ hok
            have hrp := (Tryz.mzeros m (by omega)).2 (fun b _ => b < (wr.alloc (.cells #[.string ⟨#[48]⟩] 42)).heap.size) (wr.alloc (.cells #[.string ⟨#[48]⟩] 42)) [.slice (some ⟨wr.heap.size, 0, none⟩) 1 1, .int .i64 m] (fun _ _ h => h) (Tryz.hL W _ hL (hb8.alloc hb8.size _)) (Reps.cons (rep_one rfl rfl (by show _ < _; simp) (.str [48] (by decide))) (Reps.cons (.int _ _) .nil))
            obtain ⟨wb2, hwb2⟩ : ∃ wb2, wb2 = wr := ⟨wr, rfl⟩
            subst hwb2
            go_wp2_with (first
              | (go_at_call 56; refine Calls.mono hrp ?_; rintro e W8 ⟨v8, rfl, hb9, hr8⟩; have ho8 := own_of_res1 (f := fun _ => rt 0) (by kernel_rfl) hr8; obtain ⟨a8, b8, c8, rfl, ha8⟩ : ∃ (a8 : Option Addr) (b8 c8 : Nat), v8 = .slice a8 m c8 ∧ (0 < m → a8 = some ⟨b8, 0, none⟩) := (by rcases ho8.2 with ⟨h1, h2⟩ | ⟨b, c, cur, h1, _⟩; exact ⟨none, 0, 0, by rw [h1, h2], fun h => absurd h (by omega)⟩; exact ⟨_, b, c, h1, fun _ => rfl⟩); clear hr8 hrp))
            have hb10 : Below wb2.heap.size wb2 W8 := ((Below.refl wb2.heap.size wb2).alloc (Nat.le_refl _) _).trans (hb9.mono (by simp))
            have ho9 := own_base ho8 (show wb2.heap.size ≤ _ by simp)
            clear ho8 hb9
            go_loopg [76] s.lead.length (fun gg s76 wq => ∃ t : Nat, s76 = .int .i64 t ∧ t ≤ s.lead.length ∧ s.lead.length ≤ gg + t ∧ wq.ownsRow wb2.heap.size 42 1 (.slice a8 m c8) m (lst m fun j => .string ⟨(rt (ovr (s.lead.take t) (fun _ => 0) (fun t => s.F t m) j)).toArray⟩) ∧ Below wb2.heap.size wb2 wq)
            case atStart => exact ⟨0, rfl, by omega, by omega, ho9, hb10⟩
            case round =>
              clear ho9 hb10
              obtain ⟨t, rfl, ht, hgt, ho, hbq⟩ := hrel
              by_cases hlt3 : t < s.lead.length
              · have htz : (t : Int) < (s.lead.length : Int) := by omega
                have htz0 : (0 : Int) ≤ (t : Int) := Int.natCast_nonneg _
                have htn : (t : Int) < (n : Int) := by omega
                have ha := hal (by omega)
                subst ha
                have ha := ha8 (by omega)
                subst ha
                have hld : s.lead.getD t 0 < m := hgd.lt _ (by rw [List.getD_eq_getElem?_getD, List.getElem?_eq_getElem hlt3]; exact List.getElem_mem hlt3)
                have c1 := (hbq.cell (p := ⟨bl, ol + t, none⟩) (HG7.out t hlt3).1).trans (HG7.out t hlt3).2
                have c2 := (hbq.cell (p := ⟨bf, of + t, none⟩) (HF7.out t (by omega)).1).trans (HF7.out t (by omega)).2.1
                have c3 := (hbq.cell (p := ⟨bv t, ov t + m, none⟩) ((HF7.out t (by omega)).2.2 m (by omega)).1).trans ((HF7.out t (by omega)).2.2 m (by omega)).2
                have HST : Hid (ovr (s.lead.take (t + 1)) (fun _ => 0) (fun t => s.F t m) = fun i => if i = s.lead.getD t 0 then s.F t m else ovr (s.lead.take t) (fun _ => 0) (fun t => s.F t m) i) := (ovr_step hgd.inc hlt3 _ _).symm
                generalize s.lead.getD t 0 = q at *
                have hqz : (q : Int) < (m : Int) := by omega
                have hq0 : (0 : Int) ≤ (q : Int) := Int.natCast_nonneg _
                have c4 := ho.cellAt q (by omega)
                rw [lst_at _ hld] at c4
                have f4 := ho.frozenAt q
                obtain ⟨hs1, hs2⟩ := ho.stored q (.string ⟨(rt (s.F t m)).toArray⟩)
                have HO : Hid ((wr.setCell ⟨b8, q, none⟩ (.string ⟨(rt (s.F t m)).toArray⟩)).ownsRow wb2.heap.size 42 1 (.slice (some ⟨b8, 0, none⟩) m c8) m (lst m fun j => .string ⟨(rt (ovr (s.lead.take (t + 1)) (fun _ => 0) (fun t => s.F t m) j)).toArray⟩)) := by
                  rw [lst_set] at hs1
                  rw [HST.out]
                  rw [show (lst m fun j => Value.string ⟨(rt (if j = q then s.F t m else ovr (s.lead.take t) (fun _ => 0) (fun t => s.F t m) j)).toArray⟩) = lst m fun j => if j = q then Value.string ⟨(rt (s.F t m)).toArray⟩ else Value.string ⟨(rt (ovr (s.lead.take t) (fun _ => 0) (fun t => s.F t m) j)).toArray⟩ from lst_congr fun j _ => by by_cases e : j = q <;> simp [e]]
                  exact hs1
                have HB : Hid (Below wb2.heap.size wb2 (wr.setCell ⟨b8, q, none⟩ (.string ⟨(rt (s.F t m)).toArray⟩))) := hbq.setCell (ho.lt b8 rfl).1 _
                clear hs1 hs2 ho hbq
                go_wp2
                go_roundg (s.lead.length - (t + 1))
                case measure => omega
                case rel => exact ⟨t + 1, by go_num, by omega, by omega, HO.out, HB.out⟩
              · have htz : ¬(t : Int) < (s.lead.length : Int) := by omega
                obtain rfl : t = s.lead.length := by omega
                rw [List.take_length, ← solV_ovr s m] at ho
                have hbt := hb8.trans (hbq.mono hb8.size)
                have HLE : Hid (∀ i, i < m → (rt (solV s m i)).length ≤ maxLen) := fun i hi => by have := rt_len (solV s m i); have := hsl i hi; unfold maxLen; omega
                have hsh := (Tryz.mshort 1 m (fun _ => solV s m) (by decide) (by omega) (fun _ _ => hsl)).2 (fun b _ => b < (wr.alloc (.cells #[.slice a8 m c8] 49)).heap.size) (wr.alloc (.cells #[.slice a8 m c8] 49)) [.slice (some ⟨wr.heap.size, 0, none⟩) 1 1] (fun _ _ h => h) (Tryz.hL W _ hL (hbt.alloc hbt.size _)) (Reps.cons (rep_one (d := rowD m (solV s m)) rfl rfl (by show _ < _; simp) (rep_strs (f := fun i => rt (solV s m i)) (ho.alloc _) HLE.out (fun b j h1 h2 => h2))) .nil)
                by_cases hlm : s.lead.length < m
                · have hlmz : (s.lead.length : Int) < (m : Int) := by omega
                  go_wp2_with (first
                    | (go_at_call 46; refine Calls.mono hsh ?_; rintro e W9 ⟨v9, rfl, hb9, hr9⟩; obtain rfl : v9 = .int .i64 0 := (by cases hr9; rfl); clear hr9 hsh))
                  go_ret3
                  have hbz := (hbt.alloc hbt.size (.cells #[.slice a8 m c8] 49)).trans (hb9.mono (by have := hbt.size; simp; omega))
                  refine ⟨_, rfl, hbz, ?_⟩
                  have hv := rep_strs (S := fun b j => S b j ∨ (W.heap.size ≤ b ∧ b < W9.heap.size)) (f := fun i => rt (solV s m i)) ((ho.alloc (.cells #[.slice a8 m c8] 49)).kept (gr_below (r := none) hb9) (Classical.em _)) HLE.out (fun b j h1 h2 => .inr ⟨Nat.le_trans hb8.size h1, h2⟩)
                  rw [HD.out, if_pos hlm]
                  refine .tup _ [_, _, _] rfl ?_
                  intro i d u hd hu
                  match i with
                  | 0 => cases hd; cases hu; exact hv
                  | 1 => cases hd; cases hu; exact .int _ _
                  | 2 => cases hd; cases hu; exact .int _ _
                  | k + 3 => simp at hd
                · have hlmz : ¬(s.lead.length : Int) < (m : Int) := by omega
                  go_wp2_with (first
                    | (go_at_call 46; refine Calls.mono hsh ?_; rintro e W9 ⟨v9, rfl, hb9, hr9⟩; obtain rfl : v9 = .int .i64 0 := (by cases hr9; rfl); clear hr9 hsh))
                  go_ret3
                  have hbz := (hbt.alloc hbt.size (.cells #[.slice a8 m c8] 49)).trans (hb9.mono (by have := hbt.size; simp; omega))
                  refine ⟨_, rfl, hbz, ?_⟩
                  have hv := rep_strs (S := fun b j => S b j ∨ (W.heap.size ≤ b ∧ b < W9.heap.size)) (f := fun i => rt (solV s m i)) ((ho.alloc (.cells #[.slice a8 m c8] 49)).kept (gr_below (r := none) hb9) (Classical.em _)) HLE.out (fun b j h1 h2 => .inr ⟨Nat.le_trans hb8.size h1, h2⟩)
                  rw [HD.out, if_neg hlm]
                  refine .tup _ [_, _, _] rfl ?_
                  intro i d u hd hu
                  match i with
                  | 0 => cases hd; cases hu; exact hv
                  | 1 => cases hd; cases hu; exact .int _ _
                  | 2 => cases hd; cases hu; exact .int _ _
                  | k + 3 => simp at hd
end Go.Proofs

/-
  MATRIX: Inverse, Kernel; Solve of nothing, and its errors. Own work.
-/
namespace Go.Proofs
open Go Go.Pi Go.RowKit Go.Shelf Go.Ar Go.Mx

/-! Solve -/
theorem strs_cut (m k : Nat) (r : Nat → Rat) : Go.Pi.cut 1 m (m + k) (strs (m + k) r) = strs k fun j => r (m + j) := by
  unfold Go.Pi.cut
  rw [Nat.mul_one, Nat.mul_one]
  apply List.ext_getElem?
  intro i
  show (List.drop m (List.take (m + k) (lst (m + k) _)))[i]? = (lst k _)[i]?
  rw [List.getElem?_drop, List.getElem?_take]
  by_cases h : i < k
  · rw [if_pos (by omega), lst_at _ (by omega), lst_at _ h]
  · rw [if_neg (by omega), List.getElem?_eq_none (by rw [lst_len]; omega)]
theorem Tryz.minv5 (n m : Nat) (F : Mtx) (hn : n ≤ 12) (hm : m ≤ 12) (h0 : n = 0 → m = 0) (hne : n ≠ m) (hr : Rts n m F) : Con Tryz.prog Tryz.L 15 [matD n m F] (.tup [.sl 0 [], .int .i64 5]) := by
  refine rule15 Tryz.hL rfl rfl rfl ?_
  (simp only [pc15, rs15, oU, oC]; refine ev ?_; try with_reducible exact trivial)
  refine callF_of (Tryz.msquareN n m F hn hm h0 hne hr) ?_
  (refine ev ?_; try with_reducible exact trivial)
  rfl
theorem Tryz.mdet5 (n m : Nat) (F : Mtx) (hn : n ≤ 12) (hm : m ≤ 12) (h0 : n = 0 → m = 0) (hne : n ≠ m) (hr : Rts n m F) : Con Tryz.prog Tryz.L 18 [matD n m F] (.tup [.str [], .int .i64 5]) := by
  refine rule18 Tryz.hL rfl rfl rfl ?_
  (simp only [pc18, rs18, oU, oC]; refine ev ?_; try with_reducible exact trivial)
  refine callF_of (Tryz.msquareN n m F hn hm h0 hne hr) ?_
  (refine ev ?_; try with_reducible exact trivial)
  rfl
theorem Tryz.minv (n : Nat) (F : Mtx) (hn : n ≤ 12) (hr : Rts n n F) (hb : Bnd n (n + n) n (wideM n F oneM)) (hs : (redM n F n).lead.length = n → Rts n n (invM n F)) :
    Con Tryz.prog Tryz.L 15 [matD n n F] (if (redM n F n).lead.length = n then .tup [matD n n (invM n F), .int .i64 0] else .tup [.sl 0 [], .int .i64 18]) := by
  have hle := lead_len (n := n) (w := n) F
  refine rule15 Tryz.hL (by split <;> rfl) rfl rfl ?_
  (simp only [pc15, rs15, oU, oC]; refine ev ?_; try with_reducible exact trivial)
  refine callF_of (Tryz.msquare n F hn hr) ?_
  (refine ev ?_; try with_reducible exact trivial)
  refine callF_of (Con.flat (Tryz.midentity n (by omega))) ?_
  (refine ev ?_; try with_reducible exact trivial)
  refine callF_of (Con.flat (Tryz.mbeside n n n F oneM (by omega) (by omega) (by omega))) ?_
  (refine ev ?_; try with_reducible exact trivial)
  refine callF_of (Tryz.mred n (n + n) n (wideM n F oneM) hn (by omega) (by omega) id hb) ?_
  rw [(wide_lead F oneM).1]
  (refine ev ?_; try with_reducible exact trivial)
  refine ⟨fun h => ?_, fun h => ?_⟩
  · rw [if_neg (by omega)]; rfl
  · have hf : (redM n F n).lead.length = n := by omega
    rw [if_pos hf]
    refine loopF_of (fun E => ∃ i : Nat, i ≤ n ∧ E = [(5, .int .i64 n), (9, .own true 49 i (rowsD i n (invM n F))), (33, matD n (n + n) (redM n (wideM n F oneM) n).F), (34, .int .i64 n), (35, .int .i64 i)])
      (fun E => match lk E 35 with | .int _ i => n - i.toNat | _ => 0) ⟨0, Nat.zero_le _, rfl⟩ ?_
    rintro _ ⟨i, hi, rfl⟩
    simp only [evX, evY, evZ, forall_const, implies_true, initE, stepF, D.clean, mvF, moF, tkF, shF, ariF, ciF, catF, scF, ebF, eqF, eqOk, eqPr, enF, notF, ngF, cvF, csF, csbF, lenF, lenSF, ixF, iaF, PX.slot, iaAF, faF, ldF, D.mem, stF, bxF, mkSF, boundF, fldF, ixAF, mmF2, D.plain, D.isPure, optAll, D.dull, callVF, splice, D.cells, D.one, sets, resT, D.flat, D.flat0, D.simple, Nat.reduceBNe, Nat.reduceLT, reduceIte, Nat.reduceEqDiff, Nat.reduceAdd, Nat.reduceMul, Nat.reduceSub, Nat.reduceLeDiff, Int.reduceToNat, Int.reduceLT, Int.reduceLE, Int.reduceEq, Int.reduceNeg, Int.reduceSub, Int.reduceAdd, Int.reduceMul, stG_own, ldC_rowsD]
    refine ⟨fun h3 => ⟨⟨by omega, by omega, by rw [rowsD_len]; omega⟩, by omega, ?_⟩, fun h3 => ?_⟩
    · have e : rowsD i n (invM n F) ++ [.sl (n + n - n) (Go.Pi.cut 1 n (n + n) (strs (n + n) ((redM n (wideM n F oneM) n).F i)))] = rowsD (i + 1) n (invM n F) := by
        rw [rowsD_succ, strs_cut, Nat.add_sub_cancel]; rfl
      rw [e]
      exact ⟨by omega, by omega, by omega, (strs_len ..).symm, by omega, by omega, by omega, ⟨i + 1, by omega, rfl, by simp⟩, by omega⟩
    · obtain rfl : i = n := by omega
      refine callF_of (Tryz.mresult i i _ (by omega) (by omega) (hs hf)) ?_
      (refine ev ?_; try with_reducible exact trivial)
      rfl
/-! Kernel -/
/-- the lists of the kernel as data -/
def kerD (m : Nat) (s : RSt) (c : Nat) : List D := (freeC s.lead c).map fun d => rowD m (kerV s d)
/-- and as a matrix -/
def kerM (s : RSt) (m : Nat) : Mtx := fun i => kerV s ((freeC s.lead m).getD i 0)
end Go.Proofs

/-
  MATRIX: the reference: Columns, Dot, Turned, Product, Alike, Same; the law's units; sizes. Own work.
-/
namespace Go.Proofs
open Go Go.Pi Go.RowKit Go.Shelf Go.Ar Go.Mx

theorem Tryz.xcolumns (n m : Nat) (F : Mtx) (hn : n ≤ 1000) (h0 : n = 0 → m = 0) : Con Tryz.prog Tryz.L 16 [matD n m F] (.int .i64 m) := by
  refine rule16 Tryz.hL rfl rfl rfl ?_
  (simp only [pc16, rs16, oU, oC]; refine ev ?_; try with_reducible exact trivial)
  refine ⟨fun h => ?_, fun h => ⟨⟨by omega, by rw [rowsD_len]; omega⟩, ?_⟩⟩
  · have := h0 (by omega); subst this; rfl
  · rw [ldC_rowsD0]
    (refine ev ?_; try with_reducible exact trivial)
    omega
theorem Tryz.xdot (m : Nat) (r x : Nat → Rat) (hm : m ≤ 1000) (hr : ∀ j, j < m → rd (r j) + rd (x j) ≤ 4000) (hs : ∀ k, k ≤ m → rd (dotM k r x) ≤ 5000) :
    Con Tryz.prog Tryz.L 25 [rowD m r, rowD m x] (.str (rt (dotM m r x))) := by
  refine rule25 Tryz.hL rfl rfl rfl ?_
  (simp only [pc25, rs25, oU, oC]; refine ev ?_; try with_reducible exact trivial)
  refine loopF_of (fun E => ∃ k : Nat, k ≤ m ∧ E = [(0, rowD m r), (1, rowD m x), (5, .str (rt (dotM k r x))), (6, .int .i64 k)])
    (fun E => match lk E 6 with | .int _ i => m - i.toNat | _ => 0) ⟨0, Nat.zero_le _, by rw [show dotM 0 r x = 0 from rfl, rt_zero.2 rfl]; rfl⟩ ?_
  rintro _ ⟨k, hk, rfl⟩
  simp only [evX, evY, evZ, forall_const, implies_true, initE, stepF, D.clean, mvF, moF, tkF, shF, ariF, ciF, catF, scF, ebF, eqF, eqOk, eqPr, enF, notF, ngF, cvF, csF, csbF, lenF, lenSF, ixF, iaF, PX.slot, iaAF, faF, ldF, D.mem, stF, bxF, mkSF, boundF, fldF, ixAF, mmF2, D.plain, D.isPure, optAll, D.dull, callVF, splice, D.cells, D.one, sets, resT, D.flat, D.flat0, D.simple, Nat.reduceBNe, Nat.reduceLT, reduceIte, Nat.reduceEqDiff, Nat.reduceAdd, Nat.reduceMul, Nat.reduceSub, Nat.reduceLeDiff, Int.reduceToNat, Int.reduceLT, Int.reduceLE, Int.reduceEq, Int.reduceNeg, Int.reduceSub, Int.reduceAdd, Int.reduceMul, stG_own, ldC_strsM]
  refine ⟨fun h3 => ⟨⟨by omega, by omega, by rw [strs_len]; omega⟩, by omega, ⟨by omega, by omega, by rw [strs_len]; omega⟩, by omega, ?_⟩, fun h3 => ?_⟩
  · have hk2 : k < m := by omega
    have h1 := hr k hk2
    refine callF_of (Tryz.qmul (r k) (x k) (by omega) (by omega)) ?_
    (refine ev ?_; try with_reducible exact trivial)
    have h2 := rd_mul (r k) (x k)
    refine callF_of (Tryz.qadd (dotM k r x) (r k * x k) (hs k hk) (by omega)) ?_
    (refine ev ?_; try with_reducible exact trivial)
    exact ⟨by omega, ⟨k + 1, by omega, rfl, by simp⟩, by omega⟩
  · obtain rfl : k = m := by omega
    rfl
theorem Tryz.xturned (n m : Nat) (F : Mtx) (hn : n ≤ 1000) (hm : m ≤ 1000) (h0 : n = 0 → m = 0) :
    Con Tryz.prog Tryz.L 35 [matD n m F] (.own true 49 m (rowsD m n (trM F))) := by
  refine rule35 Tryz.hL rfl rfl rfl ?_
  (simp only [pc35, rs35, oU, oC]; refine ev ?_; try with_reducible exact trivial)
  refine loopF_of (fun E => ∃ c : Nat, c ≤ m ∧ E = [(0, matD n m F), (3, .own true 49 c (rowsD c n (trM F))), (4, .int .i64 c)])
    (fun E => match lk E 4 with | .int _ i => m - i.toNat | _ => 0) ⟨0, Nat.zero_le _, rfl⟩ ?_
  rintro _ ⟨c, hc, rfl⟩
  (refine ev ?_; try with_reducible exact trivial)
  refine callF_of (Tryz.xcolumns n m F hn h0) ?_
  (refine ev ?_; try with_reducible exact trivial)
  refine ⟨fun h3 => ?_, fun h3 => ?_⟩
  · refine loopF_of (fun E => ∃ k : Nat, k ≤ n ∧ E = [(0, matD n m F), (3, .own true 49 c (rowsD c n (trM F))), (4, .int .i64 c), (5, .own true 42 k (strs k fun i => F i c)), (6, .int .i64 k)])
      (fun E => match lk E 6 with | .int _ i => n - i.toNat | _ => 0) ⟨0, Nat.zero_le _, rfl⟩ ?_
    rintro _ ⟨k, hk, rfl⟩
    simp only [evX, evY, evZ, forall_const, implies_true, initE, stepF, D.clean, mvF, moF, tkF, shF, ariF, ciF, catF, scF, ebF, eqF, eqOk, eqPr, enF, notF, ngF, cvF, csF, csbF, lenF, lenSF, ixF, iaF, PX.slot, iaAF, faF, ldF, D.mem, stF, bxF, mkSF, boundF, fldF, ixAF, mmF2, D.plain, D.isPure, optAll, D.dull, callVF, splice, D.cells, D.one, sets, resT, D.flat, D.flat0, D.simple, Nat.reduceBNe, Nat.reduceLT, reduceIte, Nat.reduceEqDiff, Nat.reduceAdd, Nat.reduceMul, Nat.reduceSub, Nat.reduceLeDiff, Int.reduceToNat, Int.reduceLT, Int.reduceLE, Int.reduceEq, Int.reduceNeg, Int.reduceSub, Int.reduceAdd, Int.reduceMul, stG_own, ldC_rowsD, ldC_strsM]
    refine ⟨fun h4 => ⟨⟨by omega, by omega, by rw [rowsD_len]; omega⟩, by omega, ⟨by omega, by omega, by rw [strs_len]; omega⟩, by omega, by omega, by omega, by omega, ⟨k + 1, by omega, by rw [strs_succ], by simp⟩, by omega⟩, fun h4 => ?_⟩
    obtain rfl : k = n := by omega
    exact ⟨by omega, by omega, by omega, ⟨c + 1, by omega, by rw [rowsD_succ]; rfl, by simp⟩, by omega⟩
  · obtain rfl : c = m := by omega
    rfl
theorem ldC_rowsD' {n m k t : Nat} {F : Mtx} {N : EP} {E : Env} : ldC false 1 (List.drop k (rowsD n m F)) t N E = (k < n ∧ N (st1 E t (rowD m (F k)))) := by
  by_cases hk : k < n
  · have e : List.drop k (rowsD n m F) = rowD m (F k) :: List.drop (k + 1) (rowsD n m F) := by
      rw [List.drop_eq_getElem_cons (by rw [rowsD_len]; exact hk)]; simp [rowsD, lst]
    rw [e]; simp [ldC, ofCells, hk, D.one]
  · rw [List.drop_eq_nil_of_le (by rw [rowsD_len]; omega)]; simp [ldC, ofCells, hk]
theorem Tryz.xproduct (n m q : Nat) (F G : Mtx) (hn : n ≤ 1000) (hm : m ≤ 1000) (hq : q ≤ 1000) (h1 : m = 0 → q = 0) (hz : ∀ i, i < n → ∀ c, c < q → (∀ j, j < m → rd (F i j) + rd (G j c) ≤ 4000) ∧ ∀ k, k ≤ m → rd (dotM k (F i) (trM G c)) ≤ 5000) :
    Con Tryz.prog Tryz.L 21 [matD n m F, matD m q G] (.own true 49 n (rowsD n q (prodM m F G))) := by
  refine rule21 Tryz.hL rfl rfl rfl ?_
  (simp only [pc21, rs21, oU, oC]; refine ev ?_; try with_reducible exact trivial)
  refine callF_of (Tryz.xturned m q G hm hq h1) ?_
  (refine ev ?_; try with_reducible exact trivial)
  refine loopF_of (fun E => ∃ (i : Nat) (b : Bool), i ≤ n ∧ E = [(0, matD n m F), (5, .own b 49 q (rowsD q m (trM G))), (6, .own true 49 i (rowsD i q (prodM m F G))), (7, .int .i64 i)])
    (fun E => match lk E 7 with | .int _ i => n - i.toNat | _ => 0) ⟨0, true, Nat.zero_le _, rfl⟩ ?_
  rintro _ ⟨i, b, hi, rfl⟩
  (refine ev ?_; try with_reducible exact trivial)
  refine ⟨fun h3 => ?_, fun h3 => ?_⟩
  · refine loopF_of (fun E => ∃ (k : Nat) (b : Bool), k ≤ q ∧ E = [(0, matD n m F), (5, .own b 49 q (rowsD q m (trM G))), (6, .own true 49 i (rowsD i q (prodM m F G))), (7, .int .i64 i), (8, .own true 42 k (strs k (prodM m F G i))), (9, .int .i64 k)])
      (fun E => match lk E 9 with | .int _ i => q - i.toNat | _ => 0) ⟨0, b, Nat.zero_le _, rfl⟩ ?_
    rintro _ ⟨k, b, hk, rfl⟩
    cases b
    all_goals
      simp only [evX, evY, evZ, forall_const, implies_true, initE, stepF, D.clean, mvF, moF, tkF, shF, ariF, ciF, catF, scF, ebF, eqF, eqOk, eqPr, enF, notF, ngF, cvF, csF, csbF, lenF, lenSF, ixF, iaF, PX.slot, iaAF, faF, ldF, D.mem, stF, bxF, mkSF, boundF, fldF, ixAF, mmF2, D.plain, D.isPure, optAll, D.dull, callVF, splice, D.cells, D.one, sets, resT, D.flat, D.flat0, D.simple, Nat.reduceBNe, Nat.reduceLT, reduceIte, Nat.reduceEqDiff, Nat.reduceAdd, Nat.reduceMul, Nat.reduceSub, Nat.reduceLeDiff, Int.reduceToNat, Int.reduceLT, Int.reduceLE, Int.reduceEq, Int.reduceNeg, Int.reduceSub, Int.reduceAdd, Int.reduceMul, stG_own, ldC_rowsD]
      refine ⟨fun h4 => ⟨⟨by omega, by omega, by rw [rowsD_len]; omega⟩, by omega, ⟨by omega, by omega, by rw [rowsD_len]; omega⟩, ?_⟩, fun h4 => ?_⟩
      · rw [ldC_rowsD']
        refine ⟨by omega, ?_⟩
        (refine ev ?_; try with_reducible exact trivial)
        have hzz := hz i (by omega) k (by omega)
        refine callF_of (Tryz.xdot m (F i) (trM G k) hm hzz.1 hzz.2) ?_
        (refine ev ?_; try with_reducible exact trivial)
        exact ⟨by omega, by omega, by omega, ⟨k + 1, _, by omega, rfl, by rw [strs_succ]; rfl, by simp⟩, by omega⟩
      · obtain rfl : k = q := by omega
        exact ⟨by omega, by omega, by omega, ⟨i + 1, _, by omega, rfl, by rw [rowsD_succ], by simp⟩, by omega⟩
  · obtain rfl : i = n := by omega
    rfl
theorem Tryz.xalike (n : Nat) (r : Nat → Rat) (hn : n ≤ 1000) : Con Tryz.prog Tryz.L 26 [rowD n r, rowD n r] (.bool true) := by
  refine rule26 Tryz.hL rfl rfl rfl ?_
  (simp only [pc26, rs26, oU, oC]; refine ev ?_; try with_reducible exact trivial)
  refine loopF_of (fun E => ∃ k : Nat, k ≤ n ∧ E = [(0, rowD n r), (1, rowD n r), (5, .int .i64 k)])
    (fun E => match lk E 5 with | .int _ i => n - i.toNat | _ => 0) ⟨0, Nat.zero_le _, rfl⟩ ?_
  rintro _ ⟨k, hk, rfl⟩
  simp only [evX, evY, evZ, forall_const, implies_true, initE, stepF, D.clean, mvF, moF, tkF, shF, ariF, ciF, catF, scF, ebF, eqF, eqOk, eqPr, enF, notF, ngF, cvF, csF, csbF, lenF, lenSF, ixF, iaF, PX.slot, iaAF, faF, ldF, D.mem, stF, bxF, mkSF, boundF, fldF, ixAF, mmF2, D.plain, D.isPure, optAll, D.dull, callVF, splice, D.cells, D.one, sets, resT, D.flat, D.flat0, D.simple, Nat.reduceBNe, Nat.reduceLT, reduceIte, Nat.reduceEqDiff, Nat.reduceAdd, Nat.reduceMul, Nat.reduceSub, Nat.reduceLeDiff, Int.reduceToNat, Int.reduceLT, Int.reduceLE, Int.reduceEq, Int.reduceNeg, Int.reduceSub, Int.reduceAdd, Int.reduceMul, stG_own, ldC_strsM]
  exact fun h3 => ⟨⟨by omega, by omega, by rw [strs_len]; omega⟩, by omega, ⟨by omega, by omega, by rw [strs_len]; omega⟩, by omega, by omega, ⟨k + 1, by omega, by simp⟩, by omega⟩
theorem Tryz.xsame (n m : Nat) (F : Mtx) (hn : n ≤ 1000) (hm : m ≤ 1000) : Con Tryz.prog Tryz.L 14 [matD n m F, matD n m F] (.bool true) := by
  refine rule14 Tryz.hL rfl rfl rfl ?_
  (simp only [pc14, rs14, oU, oC]; refine ev ?_; try with_reducible exact trivial)
  refine loopF_of (fun E => ∃ k : Nat, k ≤ n ∧ E = [(0, matD n m F), (1, matD n m F), (5, .int .i64 k)])
    (fun E => match lk E 5 with | .int _ i => n - i.toNat | _ => 0) ⟨0, Nat.zero_le _, rfl⟩ ?_
  rintro _ ⟨k, hk, rfl⟩
  simp only [evX, evY, evZ, forall_const, implies_true, initE, stepF, D.clean, mvF, moF, tkF, shF, ariF, ciF, catF, scF, ebF, eqF, eqOk, eqPr, enF, notF, ngF, cvF, csF, csbF, lenF, lenSF, ixF, iaF, PX.slot, iaAF, faF, ldF, D.mem, stF, bxF, mkSF, boundF, fldF, ixAF, mmF2, D.plain, D.isPure, optAll, D.dull, callVF, splice, D.cells, D.one, sets, resT, D.flat, D.flat0, D.simple, Nat.reduceBNe, Nat.reduceLT, reduceIte, Nat.reduceEqDiff, Nat.reduceAdd, Nat.reduceMul, Nat.reduceSub, Nat.reduceLeDiff, Int.reduceToNat, Int.reduceLT, Int.reduceLE, Int.reduceEq, Int.reduceNeg, Int.reduceSub, Int.reduceAdd, Int.reduceMul, stG_own, ldC_rowsD]
  intro h3
  refine ⟨⟨by omega, by omega, by rw [rowsD_len]; omega⟩, by omega, ⟨by omega, by omega, by rw [rowsD_len]; omega⟩, by omega, ?_⟩
  refine callF_of (Tryz.xalike m (F k) hm) ?_
  (refine ev ?_; try with_reducible exact trivial)
  exact ⟨by omega, ⟨k + 1, by omega, by simp⟩, by omega⟩
/-! sizes -/
theorem bnd_of {k n m w : Nat} {F : Mtx} (h : RBs k n m F) (hw : w ≤ m) (hk : (k + 1) * 2 ^ w ≤ 898) : Bnd n m w F := fun q hq => by
  have hp : (k + 1) * 2 ^ q ≤ (k + 1) * 2 ^ w := Nat.mul_le_mul_left _ (Nat.pow_le_pow_right (by decide) hq)
  refine ⟨fun i hi j hj => ?_, ?_⟩
  · have := rd_nb (((rbs_red h (w := q) (by omega)) i hi).nb hj)
    rw [Nat.max_self] at this
    omega
  · have := rd_nb (nb_fac h (w := q) (by omega))
    rw [Nat.max_self] at this
    omega
end Go.Proofs

/-
  MATRIX: the examples of the chapter. Own work.
-/
namespace Go.Mx
theorem RBs.wideOne {k n m : Nat} {F : Mtx} (h : RBs k n m F) : RBs k n (m + n) (wideM m F oneM) := fun i hi => by
  obtain ⟨d, h1, h2, h3⟩ := h i hi
  refine ⟨d, h1, h2, fun j hj => ?_⟩
  unfold wideM oneM
  by_cases hjm : j < m
  · rw [if_pos hjm]; exact h3 j hjm
  · rw [if_neg hjm]
    by_cases e : i = j - m
    · rw [if_pos e]; exact ⟨d, by simpa using h2, by rw [Rat.one_mul]; rfl⟩
    · rw [if_neg e]; exact ⟨0, Nat.zero_le _, by rw [Rat.zero_mul]; rfl⟩
theorem RBs.wideCol {k a b n m : Nat} {F : Mtx} {y : Nat → Rat} (h : RBs k n m F) (hy : ∀ i, i < n → NB a b (y i)) : RBs (k + max a b) n (m + 1) (wideM m F fun i _ => y i) := fun i hi => by
  obtain ⟨d, h1, h2, h3⟩ := h i hi
  obtain ⟨v, e, g1, g2, g3, g4⟩ := hy i hi
  have pm := fun {x y : Nat} (h : x ≤ y) => pow_mono h
  refine ⟨d * e, Nat.mul_pos h1 g1, ?_, fun j hj => ?_⟩
  · refine Nat.le_trans (Nat.mul_le_mul h2 g2) ?_
    rw [← Nat.pow_add]; exact pm (by omega)
  · unfold wideM
    by_cases hjm : j < m
    · rw [if_pos hjm]
      obtain ⟨u, h4, h5⟩ := h3 j hjm
      refine ⟨u * e, ?_, ?_⟩
      · rw [Int.natAbs_mul, Int.natAbs_natCast]
        refine Nat.le_trans (Nat.mul_le_mul h4 g2) ?_
        rw [← Nat.pow_add]; exact pm (by omega)
      · rw [Rat.natCast_mul, Rat.intCast_mul, Rat.intCast_natCast, ← h5]; grind
    · rw [if_neg hjm]
      refine ⟨v * d, ?_, ?_⟩
      · rw [Int.natAbs_mul, Int.natAbs_natCast]
        refine Nat.le_trans (Nat.mul_le_mul g3 h2) ?_
        rw [← Nat.pow_add]; exact pm (by omega)
      · rw [Rat.natCast_mul, Rat.intCast_mul, Rat.intCast_natCast, ← g4]; grind
end Go.Mx
namespace Go.Proofs
open Go Go.Pi Go.RowKit Go.Shelf Go.Ar Go.Mx

def exA : Mtx := fun i j => if i = 0 then (if j = 0 then 1 else 2) else (if j = 0 then 3 else 4)
def exB : Mtx := fun i j => if i = 0 then (if j = 0 then 2 else 1) else (if j = 0 then 1 else -1)
def exY : Nat → Rat := fun i => if i = 0 then 3 else 0
theorem two {i : Nat} (h : i < 2) : i = 0 ∨ i = 1 := by omega
theorem exA_rb : RBs 1 2 2 exA := fun i hi => ⟨1, by decide, by decide, fun j hj => ⟨(exA i j).num, by rcases two hi with rfl | rfl <;> rcases two hj with rfl | rfl <;> decide +kernel, by rcases two hi with rfl | rfl <;> rcases two hj with rfl | rfl <;> decide +kernel⟩⟩
theorem exB_rb : RBs 1 2 2 exB := fun i hi => ⟨1, by decide, by decide, fun j hj => ⟨(exB i j).num, by rcases two hi with rfl | rfl <;> rcases two hj with rfl | rfl <;> decide +kernel, by rcases two hi with rfl | rfl <;> rcases two hj with rfl | rfl <;> decide +kernel⟩⟩
theorem exY_nb : ∀ i, i < 2 → NB 1 1 (exY i) := fun i hi => ⟨(exY i).num, 1, by decide, by decide, by rcases two hi with rfl | rfl <;> decide +kernel, by rcases two hi with rfl | rfl <;> decide +kernel⟩
theorem rts_of {k n m : Nat} {F : Mtx} (h : RBs k n m F) (hk : k ≤ 199) : Rts n m F := fun i hi j hj => by
  have := rd_nb ((h i hi).nb hj)
  rw [Nat.max_self] at this
  omega
theorem Tryz.exDet : Con Tryz.prog Tryz.L 18 [.sl 2 [.sl 2 [.str [49], .str [50]], .sl 2 [.str [51], .str [52]]]] (.tup [.str [45, 50], .int .i64 0]) := by
  have h := Tryz.mdet 2 exA (by decide) (rts_of exA_rb (by decide)) (bnd_of exA_rb (Nat.le_refl _) (by decide)) (by decide +kernel)
  rw [show matD 2 2 exA = .sl 2 [.sl 2 [.str [49], .str [50]], .sl 2 [.str [51], .str [52]]] by kernel_rfl, show rt (detM 2 exA) = [45, 50] by kernel_rfl] at h
  exact h
theorem Tryz.exInv : Con Tryz.prog Tryz.L 15 [.sl 2 [.sl 2 [.str [49], .str [50]], .sl 2 [.str [51], .str [52]]]] (.tup [.sl 2 [.sl 2 [.str [45, 50], .str [49]], .sl 2 [.str [51, 47, 50], .str [45, 49, 47, 50]]], .int .i64 0]) := by
  have h := Tryz.minv 2 exA (by decide) (rts_of exA_rb (by decide)) (bnd_of (exA_rb.wideOne) (by decide) (by decide)) (fun _ i hi j hj => by rcases two hi with rfl | rfl <;> rcases two hj with rfl | rfl <;> decide +kernel)
  rw [if_pos (by decide +kernel)] at h
  rw [show matD 2 2 exA = .sl 2 [.sl 2 [.str [49], .str [50]], .sl 2 [.str [51], .str [52]]] by kernel_rfl, show matD 2 2 (invM 2 exA) = .sl 2 [.sl 2 [.str [45, 50], .str [49]], .sl 2 [.str [51, 47, 50], .str [45, 49, 47, 50]]] by kernel_rfl] at h
  exact h
theorem Tryz.exSol : Con Tryz.prog Tryz.L 28 [.sl 2 [.sl 2 [.str [50], .str [49]], .sl 2 [.str [49], .str [45, 49]]], .sl 2 [.str [51], .str [48]]] (.tup [.sl 2 [.str [49], .str [49]], .int .i64 1, .int .i64 0]) := by
  have hok : okS 2 2 (redM 2 (wideM 2 exB fun i _ => exY i) 2) := fun i h1 h2 => by
    have : (redM 2 (wideM 2 exB fun i _ => exY i) 2).lead.length = 2 := by decide +kernel
    omega
  have h := Tryz.msolveW 2 2 exB exY (by decide) (by decide) (by decide) (rts_of exB_rb (by decide)) (fun i hi => by rcases two hi with rfl | rfl <;> decide +kernel) (bnd_of (exB_rb.wideCol exY_nb) (by decide) (by decide)) (fun _ i hi => by rcases two hi with rfl | rfl <;> decide +kernel)
  unfold solD at h
  rw [if_pos hok] at h
  rw [if_neg (by decide +kernel)] at h
  rw [show matD 2 2 exB = .sl 2 [.sl 2 [.str [50], .str [49]], .sl 2 [.str [49], .str [45, 49]]] by kernel_rfl, show rowD 2 exY = .sl 2 [.str [51], .str [48]] by kernel_rfl, show rowD 2 (solV (redM 2 (wideM 2 exB fun i _ => exY i) 2) 2) = .sl 2 [.str [49], .str [49]] by kernel_rfl] at h
  exact h
theorem Tryz.exSame : Con Tryz.prog Tryz.L 14 [.sl 2 [.sl 2 [.str [45, 50], .str [49]], .sl 2 [.str [51, 47, 50], .str [45, 49, 47, 50]]], .sl 2 [.sl 2 [.str [45, 50], .str [49]], .sl 2 [.str [51, 47, 50], .str [45, 49, 47, 50]]]] (.bool true) := by
  have h := Tryz.xsame 2 2 (invM 2 exA) (by decide) (by decide)
  rw [show matD 2 2 (invM 2 exA) = .sl 2 [.sl 2 [.str [45, 50], .str [49]], .sl 2 [.str [51, 47, 50], .str [45, 49, 47, 50]]] by kernel_rfl] at h
  exact h
theorem Tryz.exAlike : Con Tryz.prog Tryz.L 26 [.sl 2 [.str [49], .str [49]], .sl 2 [.str [49], .str [49]]] (.bool true) := by
  have h := Tryz.xalike 2 (fun _ => 1) (by decide)
  rw [show rowD 2 (fun _ => 1) = .sl 2 [.str [49], .str [49]] by kernel_rfl] at h
  exact h
end Go.Proofs

/-
  MATRIX: known() holds. Own work.
-/
namespace Go.Proofs
open Go Go.Pi Go.RowKit Go.Shelf Go.Ar Go.Mx

/-- a literal -/
theorem rep_parts {S : Nat → Nat → Prop} {W : World} {e : TypeId} {ds : List D} {vs : List Value} {k : Nat} (hk : vs.length = k) (h1 : ∀ d ∈ ds, d.one = true) (hm : k ≤ maxLen) (hS : ∀ j, S W.heap.size j) (h : Reps S (W.alloc (.cells vs.toArray e)) ds vs) :
    Rep S (W.alloc (.cells vs.toArray e)) (.sl k ds) (.slice (some ⟨W.heap.size, 0, none⟩) k k) := by
  refine .sl k _ _ 0 k vs h.1 h1 (Nat.le_refl _) hm (fun i u hu => ⟨hS _, ?_⟩) h.2
  rw [Lib.cell_of_heap (heap_alloc_new W _), Nat.zero_add]
  simpa using hu
theorem rep_up {S S' : Nat → Nat → Prop} {W : World} {ob : Obj} {d : D} {v : Value} (h : Rep S W d v) (hS : ∀ b j, S b j → S' b j ∧ b < W.heap.size) : Rep S' (W.alloc ob) d v :=
  h.mono (fun b j z => (hS b j z).1) (fun b j z => World.cell?_alloc_lt _ _ _ (hS b j z).2)
theorem rep_two {S : Nat → Nat → Prop} {W : World} {e : TypeId} {a b : List UInt8} (ha : a.length ≤ 100) (hb : b.length ≤ 100) (hS : ∀ j, S W.heap.size j) : Rep S (W.alloc (.cells #[.string ⟨a.toArray⟩, .string ⟨b.toArray⟩] e)) (.sl 2 [.str a, .str b]) (.slice (some ⟨W.heap.size, 0, none⟩) 2 2) :=
  rep_parts (vs := [.string ⟨a.toArray⟩, .string ⟨b.toArray⟩]) rfl (by simp [D.one]) (by decide) hS (Reps.cons (.str a (by unfold maxLen; omega)) (Reps.cons (.str b (by unfold maxLen; omega)) .nil))
theorem rep_two' {S : Nat → Nat → Prop} {W : World} {e : TypeId} {a b : List UInt8} {n : Nat} (hn : W.heap.size = n) (ha : a.length ≤ 100) (hb : b.length ≤ 100) (hS : ∀ j, S n j) : Rep S (W.alloc (.cells #[.string ⟨a.toArray⟩, .string ⟨b.toArray⟩] e)) (.sl 2 [.str a, .str b]) (.slice (some ⟨n, 0, none⟩) 2 2) := by
  subst hn; exact rep_two ha hb hS
theorem rep_tup2i {S : Nat → Nat → Prop} {w : World} {d : D} {k : IntKind} {z : Int} {v : Value} (h : Rep S w (.tup [d, .int k z]) v) : ∃ x, v = .tuple #[x, .int k z] ∧ Rep S w d x := by
  cases h with
  | tup _ vs hl h =>
    match vs, hl, h with
    | [x, y], _, h => exact ⟨x, by rw [(h 1 _ _ rfl rfl).int_inv], h 0 _ _ rfl rfl⟩
theorem rep_tup3i {S : Nat → Nat → Prop} {w : World} {d : D} {k l : IntKind} {y z : Int} {v : Value} (h : Rep S w (.tup [d, .int k y, .int l z]) v) : ∃ x, v = .tuple #[x, .int k y, .int l z] ∧ Rep S w d x := by
  cases h with
  | tup _ vs hl h =>
    match vs, hl, h with
    | [x, y, z], _, h => exact ⟨x, by rw [(h 1 _ _ rfl rfl).int_inv, (h 2 _ _ rfl rfl).int_inv], h 0 _ _ rfl rfl⟩
theorem rep_later {S1 : Nat → Nat → Prop} {W1 W2 : World} {d : D} {v : Value} (h : Rep (fun b j => S1 b j ∨ (W1.heap.size ≤ b ∧ b < W2.heap.size)) W2 d v) (h1 : ∀ b j, S1 b j → b < W1.heap.size) (hs : W1.heap.size ≤ W2.heap.size) :
    ∀ W', Below W2.heap.size W2 W' → Rep (fun b _ => b < W'.heap.size) W' d v := fun W' hb => by
  have hlt : ∀ b j, (S1 b j ∨ (W1.heap.size ≤ b ∧ b < W2.heap.size)) → b < W2.heap.size := fun b j h => h.elim (fun h => Nat.lt_of_lt_of_le (h1 b j h) hs) (fun h => h.2)
  exact h.mono (fun b j z => Nat.lt_of_lt_of_le (hlt b j z) hb.size) (fun b j z => hb.cell (p := ⟨b, j, none⟩) (hlt b j z))
theorem rep_lit22 {W : World} {e1 e2 : TypeId} {a b c d : List UInt8} (ha : a.length ≤ 100) (hb : b.length ≤ 100) (hc : c.length ≤ 100) (hd : d.length ≤ 100) :
    Rep (fun x _ => x < W.heap.size + 3) (((W.alloc (.cells #[.string ⟨a.toArray⟩, .string ⟨b.toArray⟩] e1)).alloc (.cells #[.string ⟨c.toArray⟩, .string ⟨d.toArray⟩] e1)).alloc (.cells #[.slice (some ⟨W.heap.size, 0, none⟩) 2 2, .slice (some ⟨W.heap.size + 1, 0, none⟩) 2 2] e2))
      (.sl 2 [.sl 2 [.str a, .str b], .sl 2 [.str c, .str d]]) (.slice (some ⟨W.heap.size + 2, 0, none⟩) 2 2) := by
  have r1 := rep_two (S := fun x _ => x < W.heap.size + 1) (W := W) (e := e1) ha hb (fun _ => Nat.lt_succ_self _)
  have s1 : (W.alloc (.cells #[.string ⟨a.toArray⟩, .string ⟨b.toArray⟩] e1)).heap.size = W.heap.size + 1 := by simp
  have r2 := rep_two (S := fun x _ => x < W.heap.size + 2) (W := W.alloc (.cells #[.string ⟨a.toArray⟩, .string ⟨b.toArray⟩] e1)) (e := e1) hc hd (fun _ => by omega)
  rw [s1] at r2
  have r1' := rep_up (S' := fun x _ => x < W.heap.size + 2) (ob := .cells #[.string ⟨c.toArray⟩, .string ⟨d.toArray⟩] e1) r1 (fun b j h => ⟨by omega, by omega⟩)
  have s2 : ((W.alloc (.cells #[.string ⟨a.toArray⟩, .string ⟨b.toArray⟩] e1)).alloc (.cells #[.string ⟨c.toArray⟩, .string ⟨d.toArray⟩] e1)).heap.size = W.heap.size + 2 := by simp
  generalize ((W.alloc (.cells #[.string ⟨a.toArray⟩, .string ⟨b.toArray⟩] e1)).alloc (.cells #[.string ⟨c.toArray⟩, .string ⟨d.toArray⟩] e1)) = W2 at *
  have h := rep_parts (S := fun x _ => x < W.heap.size + 3) (W := W2) (e := e2) (ds := [.sl 2 [.str a, .str b], .sl 2 [.str c, .str d]]) (vs := [.slice (some ⟨W.heap.size, 0, none⟩) 2 2, .slice (some ⟨W.heap.size + 1, 0, none⟩) 2 2]) (k := 2) rfl (by simp [D.one]) (by decide) (fun _ => by omega)
    (Reps.cons (rep_up r1' (fun b j h => ⟨by omega, by omega⟩)) (Reps.cons (rep_up r2 (fun b j h => ⟨by omega, by omega⟩)) .nil))
  rw [s2] at h
  exact h
set_option maxRecDepth 100000 in
set_option maxHeartbeats 8000000 in
theorem Tryz.mknown : Con Tryz.prog Tryz.L 11 [] (.bool true) := by
  have mixed : Tryz.prog.follows .mixedOrders = true := by kernel_rfl
  have t0 := Tryz.underlying28; have a0 := Tryz.isAgg28; have z0 := Tryz.sizeOf28; have v0 := Tryz.zeroValue28; have u0 := run_underlying Tryz.underlying28
  have t1 := Tryz.underlying49; have a1 := Tryz.isAgg49; have z1 := Tryz.sizeOf49; have v1 := Tryz.zeroValue49; have u1 := run_underlying Tryz.underlying49
  have t2 := Tryz.underlying42; have a2 := Tryz.isAgg42; have z2 := Tryz.sizeOf42; have v2 := Tryz.zeroValue42; have u2 := run_underlying Tryz.underlying42
  have t3 := Tryz.underlying4; have a3 := Tryz.isAgg4; have z3 := Tryz.sizeOf4; have v3 := Tryz.zeroValue4; have u3 := run_underlying Tryz.underlying4
  have t4 := Tryz.underlying3; have a4 := Tryz.isAgg3; have z4 := Tryz.sizeOf3; have v4 := Tryz.zeroValue3; have u4 := run_underlying Tryz.underlying3
  have t6 := Tryz.underlying31; have a6 := Tryz.isAgg31; have z6 := Tryz.sizeOf31; have v6 := Tryz.zeroValue31; have u6 := run_underlying Tryz.underlying31
  have t7 := Tryz.underlying35; have a7 := Tryz.isAgg35; have z7 := Tryz.sizeOf35; have v7 := Tryz.zeroValue35; have u7 := run_underlying Tryz.underlying35
  refine ⟨⟨by kernel_rfl, rfl⟩, fun S W vs hS hL hrep => ?_⟩
  obtain rfl : vs = [] := List.length_eq_zero_iff.1 hrep.1.symm
  have B0 := Below.refl W.heap.size W
  have HL := hL
  have hd1 := fun (a b c d : List UInt8) (W0 W1 : World) (h : Below W0.heap.size W0 W1) => (((h.alloc h.size (.cells #[.string ⟨a.toArray⟩, .string ⟨b.toArray⟩] 42)).alloc (by have := h.size; simp; omega) (.cells #[.string ⟨c.toArray⟩, .string ⟨d.toArray⟩] 42)).alloc (by have := h.size; simp; omega) (.cells #[.slice (some ⟨W1.heap.size, 0, none⟩) 2 2, .slice (some ⟨W1.heap.size + 1, 0, none⟩) 2 2] 49))
  have B1 := hd1 [49] [50] [51] [52] W W B0
  show Calls _ _ #[] _ _
  go_enter Tryz.func11, Tryz.ntmps11
  go_wp2_with (first
    | (go_at_call 18; refine Calls.mono (Tryz.exDet.2 _ _ [_] (fun b _ h => by have : b < W.heap.size + 3 := h; simp; omega) (Tryz.hL W _ HL B1) (Reps.cons (rep_lit22 (by decide) (by decide) (by decide) (by decide)) .nil)) ?_; rintro e W1 ⟨v1, rfl, hb1, hr1⟩; obtain rfl := rep_strint hr1; clear hr1; have B2 := B1.trans (hb1.mono B1.size); have B3 := hd1 [49] [50] [51] [52] W W1 B2; clear hb1 B1)
    | (go_at_call 15; refine Calls.mono (Tryz.exInv.2 _ _ [_] (fun b _ h => by have : b < W1.heap.size + 3 := h; simp; omega) (Tryz.hL W _ HL B3) (Reps.cons (rep_lit22 (by decide) (by decide) (by decide) (by decide)) .nil)) ?_; rintro e W2 ⟨v2, rfl, hb2, hr2⟩; obtain ⟨x2, rfl, hx2⟩ := rep_tup2i hr2; have HX2 : Hid (∀ W', Below W2.heap.size W2 W' → Rep (fun b _ => b < W'.heap.size) W' (.sl 2 [.sl 2 [.str [45, 50], .str [49]], .sl 2 [.str [51, 47, 50], .str [45, 49, 47, 50]]]) x2) := rep_later hx2 (fun b _ h => by have : b < W1.heap.size + 3 := h; simp; omega) hb2.size; have B4 := B3.trans (hb2.mono B3.size); have B5 := hd1 [50] [49] [49] [45, 49] W W2 B4; have B6 := B5.alloc B5.size (.cells #[.string ⟨#[51]⟩, .string ⟨#[48]⟩] 42); have C4 := hd1 [50] [49] [49] [45, 49] W2 W2 (Below.refl _ _); have C5 := C4.alloc C4.size (.cells #[.string ⟨#[51]⟩, .string ⟨#[48]⟩] 42); clear hx2 hr2 hb2 B3)
    | (go_at_call 28; refine Calls.mono (Tryz.exSol.2 (fun x _ => x < W2.heap.size + 4) _ [_, _] (fun b _ h => by have : b < W2.heap.size + 4 := h; simp; omega) (Tryz.hL W _ HL B6) (Reps.cons (rep_up (rep_lit22 (by decide) (by decide) (by decide) (by decide)) (fun b j h => ⟨by omega, by simp; omega⟩)) (Reps.cons (rep_two' (by simp) (by decide) (by decide) (fun _ => by omega)) .nil))) ?_; rintro e W3 ⟨v3, rfl, hb3, hr3⟩; obtain ⟨x3, rfl, hx3⟩ := rep_tup3i hr3; have HX3 : Hid (∀ W', Below W3.heap.size W3 W' → Rep (fun b _ => b < W'.heap.size) W' (.sl 2 [.str [49], .str [49]]) x3) := rep_later hx3 (fun b _ h => by have : b < W2.heap.size + 4 := h; simp; omega) hb3.size; have B7 := B6.trans (hb3.mono B6.size); have B8 := hd1 [45, 50] [49] [51, 47, 50] [45, 49, 47, 50] W W3 B7; have C6 := C5.trans (hb3.mono C5.size); have C7 := hd1 [45, 50] [49] [51, 47, 50] [45, 49, 47, 50] W2 W3 C6; have E7 := hd1 [45, 50] [49] [51, 47, 50] [45, 49, 47, 50] W3 W3 (Below.refl _ _); clear hx3 hr3 hb3 B6 B5 C4 C5 B4)
    | (go_at_call 14; refine Calls.mono (Tryz.exSame.2 _ _ [_, _] (fun _ _ h => h) (Tryz.hL W _ HL B8) (Reps.cons (HX2.out _ C7) (Reps.cons ((rep_lit22 (by decide) (by decide) (by decide) (by decide)).mono (fun b j z => by have : b < W3.heap.size + 3 := z; show b < _; simp; omega) (fun _ _ _ => rfl)) .nil))) ?_; rintro e W4 ⟨v4, rfl, hb4, hr4⟩; obtain rfl : v4 = .bool true := (by cases hr4; rfl); have B9 := B8.trans (hb4.mono B8.size); have B10 := B9.alloc B9.size (.cells #[.string ⟨#[49]⟩, .string ⟨#[49]⟩] 42); have E8 := E7.trans (hb4.mono E7.size); have E9 := E8.alloc E8.size (.cells #[.string ⟨#[49]⟩, .string ⟨#[49]⟩] 42); clear hr4)
    | (go_at_call 26; refine Calls.mono (Tryz.exAlike.2 _ _ [_, _] (fun _ _ h => h) (Tryz.hL W _ HL B10) (Reps.cons (HX3.out _ E9) (Reps.cons (rep_two' rfl (by decide) (by decide) (fun _ => by show _ < _; simp)) .nil))) ?_; rintro e W5 ⟨v5, rfl, hb5, hr5⟩; obtain rfl : v5 = .bool true := (by cases hr5; rfl)))
  go_ret
  exact ⟨_, rfl, B10.trans (hb5.mono B10.size), .bool true⟩
end Go.Proofs

/-
  MATRIX: described matrices. Own work.
-/
namespace Go.Proofs
open Go Go.Pi Go.RowKit Go.Shelf Go.Ar Go.Mx

structure Grd where
  r : Nat
  c : Nat
  h : Bool
  e : Nat → Int
/-- a description in its bounds -/
def Grd.ok (g : Grd) : Prop := g.r < 256 ∧ g.c < 256 ∧ ∀ k, k < 16 → -128 ≤ g.e k ∧ g.e k ≤ 127
def Grd.D (g : Grd) : List D := .int .u8 g.r :: .int .u8 g.c :: .bool g.h :: lst 16 fun k => .int .i8 (g.e k)
def Grd.n (g : Grd) : Nat := g.r % 5
def Grd.m (g : Grd) : Nat := if g.r % 5 = 0 then 0 else g.c % 5
def Grd.d (g : Grd) : Nat := if g.h then 2 else 1
def Grd.F (g : Grd) : Mtx := fun i k => mkRat ((g.e (4 * i + k)).tmod 20) g.d
theorem Grd.nm (g : Grd) : g.n = 0 → g.m = 0 := fun h => if_pos h
theorem Grd.n4 (g : Grd) : g.n ≤ 4 := by unfold Grd.n; omega
theorem Grd.m4 (g : Grd) : g.m ≤ 4 := by unfold Grd.m; split <;> omega
theorem tmod20 (z : Int) : -19 ≤ z.tmod 20 ∧ z.tmod 20 ≤ 19 := by
  have h1 := Int.tmod_lt_of_pos z (show (0 : Int) < 20 by decide)
  have h2 := Int.tmod_lt_of_pos (-z) (show (0 : Int) < 20 by decide)
  rw [Int.neg_tmod] at h2
  omega
theorem Grd.rb (g : Grd) : RBs 2 g.n g.m g.F := fun i _ => by
  refine ⟨2, by decide, by decide, fun k _ => ?_⟩
  have h := tmod20 (g.e (4 * i + k))
  unfold Grd.F Grd.d
  generalize (g.e (4 * i + k)).tmod 20 = z at *
  cases g.h
  · refine ⟨2 * z, by omega, ?_⟩
    show mkRat z 1 * (2 : Nat) = _
    rw [mkRat_d1, Rat.intCast_mul]
    grind
  · refine ⟨z, by omega, ?_⟩
    show mkRat z 2 * (2 : Nat) = _
    rw [Rat.mkRat_eq_div]
    have : ((2 : Nat) : Rat) ≠ 0 := by decide +kernel
    grind
theorem Grd.rts (g : Grd) : Rts g.n g.m g.F := rts_of g.rb (by decide)
theorem Grd.rowsN (g : Grd) : rowsD g.n (g.c % 5) g.F = rowsD g.n g.m g.F := by
  by_cases h : g.r % 5 = 0
  · rw [show g.n = 0 from h]; rfl
  · rw [show g.m = g.c % 5 from if_neg h]
theorem gl0 {g : Grd} {t : Nat} {N : EP} {E : Env} : ldC false 1 g.D t N E = N (st1 E t (.int .u8 g.r)) := by simp [ldC, ofCells, Grd.D, D.one]
theorem gl1 {g : Grd} {t : Nat} {N : EP} {E : Env} : ldC false 1 (List.drop 1 g.D) t N E = N (st1 E t (.int .u8 g.c)) := by simp [ldC, ofCells, Grd.D, D.one]
theorem gl2 {g : Grd} {t : Nat} {N : EP} {E : Env} : ldC false 1 (List.drop 2 g.D) t N E = N (st1 E t (.bool g.h)) := by simp [ldC, ofCells, Grd.D, D.one]
theorem gl3 {g : Grd} {j t : Nat} {N : EP} {E : Env} : ldC false 1 (List.drop (3 + j) g.D) t N E = (j < 16 ∧ N (st1 E t (.int .i8 (g.e j)))) := by
  rw [show List.drop (3 + j) g.D = List.drop j (lst 16 fun k => D.int .i8 (g.e k)) by rw [Nat.add_comm]; rfl]
  by_cases hk : j < 16
  · have e : List.drop j (lst 16 fun k => D.int .i8 (g.e k)) = .int .i8 (g.e j) :: List.drop (j + 1) (lst 16 fun k => D.int .i8 (g.e k)) := by
      rw [List.drop_eq_getElem_cons (by rw [lst_len]; exact hk)]; simp [lst]
    rw [e]; simp [ldC, ofCells, hk, D.one]
  · rw [List.drop_eq_nil_of_le (by rw [lst_len]; omega)]; simp [ldC, ofCells, hk]
theorem g19 (g : Grd) : g.D.length = 19 := by simp [Grd.D, lst_len]
theorem gone (g : Grd) : g.D.all D.one = true := by simp [Grd.D, lst, D.one]
set_option maxRecDepth 100000 in
set_option maxHeartbeats 4000000 in
theorem Tryz.mmake (g : Grd) (hg : g.ok) : Con Tryz.prog Tryz.L 12 [.agg g.D] (.own true 49 g.n (rowsD g.n g.m g.F)) := by
  rw [← g.rowsN]
  obtain ⟨h1, h2, h3⟩ := hg
  refine rule12 Tryz.hL rfl rfl rfl ?_
  (simp only [pc12, rs12, oU, oC]; refine ev ?_; try with_reducible exact trivial)
  refine ⟨g19 g, gone g, ?_⟩
  rw [gl2]
  have hd : (g.d : Int) = if g.h then 2 else 1 := by unfold Grd.d; split <;> rfl
  have er : (g.r : Int).tmod 5 = (g.n : Int) := by unfold Grd.n; rw [Int.tmod_eq_emod_of_nonneg (by omega)]; omega
  have ec : (g.c : Int).tmod 5 = ((g.c % 5 : Nat) : Int) := by rw [Int.tmod_eq_emod_of_nonneg (by omega)]; omega
  have hn4 := g.n4
  have hc4 : g.c % 5 ≤ 4 := by omega
  cases hh : g.h
  all_goals
    (refine ev ?_; try with_reducible exact trivial)
    refine loopF_of (fun E => ∃ i : Nat, i ≤ g.n ∧ E = [(1, .box true g.D), (3, .own true 49 i (rowsD i (g.c % 5) g.F)), (4, .int .i64 g.d), (5, .int .i64 i)])
      (fun E => match lk E 5 with | .int _ i => g.n - i.toNat | _ => 0) ⟨0, Nat.zero_le _, by rw [hd, hh]; rfl⟩ ?_
    rintro _ ⟨i, hi, rfl⟩
    simp only [evX, evY, evZ, forall_const, implies_true, initE, stepF, D.clean, mvF, moF, tkF, shF, ariF, ciF, catF, scF, ebF, eqF, eqOk, eqPr, enF, notF, ngF, cvF, csF, csbF, lenF, lenSF, ixF, iaF, PX.slot, iaAF, faF, ldF, D.mem, stF, bxF, mkSF, boundF, fldF, ixAF, mmF2, D.plain, D.isPure, optAll, D.dull, callVF, splice, D.cells, D.one, sets, resT, D.flat, D.flat0, D.simple, Nat.reduceBNe, Nat.reduceLT, reduceIte, Nat.reduceEqDiff, Nat.reduceAdd, Nat.reduceMul, Nat.reduceSub, Nat.reduceLeDiff, Int.reduceToNat, Int.reduceLT, Int.reduceLE, Int.reduceEq, Int.reduceNeg, Int.reduceSub, Int.reduceAdd, Int.reduceMul, stG_own, gl0]
    rw [er]
    refine ⟨⟨by omega, by omega⟩, fun h5 => ?_, fun h5 => ?_⟩
    · refine loopF_of (fun E => ∃ k : Nat, k ≤ g.c % 5 ∧ E = [(1, .box true g.D), (3, .own true 49 i (rowsD i (g.c % 5) g.F)), (4, .int .i64 g.d), (5, .int .i64 i), (6, .own true 42 k (strs k (g.F i))), (7, .int .i64 k)])
        (fun E => match lk E 7 with | .int _ i => g.c % 5 - i.toNat | _ => 0) ⟨0, Nat.zero_le _, rfl⟩ ?_
      rintro _ ⟨k, hk, rfl⟩
      simp only [evX, evY, evZ, forall_const, implies_true, initE, stepF, D.clean, mvF, moF, tkF, shF, ariF, ciF, catF, scF, ebF, eqF, eqOk, eqPr, enF, notF, ngF, cvF, csF, csbF, lenF, lenSF, ixF, iaF, PX.slot, iaAF, faF, ldF, D.mem, stF, bxF, mkSF, boundF, fldF, ixAF, mmF2, D.plain, D.isPure, optAll, D.dull, callVF, splice, D.cells, D.one, sets, resT, D.flat, D.flat0, D.simple, Nat.reduceBNe, Nat.reduceLT, reduceIte, Nat.reduceEqDiff, Nat.reduceAdd, Nat.reduceMul, Nat.reduceSub, Nat.reduceLeDiff, Int.reduceToNat, Int.reduceLT, Int.reduceLE, Int.reduceEq, Int.reduceNeg, Int.reduceSub, Int.reduceAdd, Int.reduceMul, stG_own, gl1]
      rw [ec]
      refine ⟨⟨by omega, by omega⟩, fun h6 => ?_, fun h6 => ?_⟩
      · refine ⟨⟨by omega, by omega⟩, ⟨by omega, by omega⟩, ⟨by omega, by omega⟩, ?_⟩
        rw [show (4 * (i : Int) + (k : Int)).toNat = 4 * i + k by omega, gl3]
        refine ⟨by omega, ?_⟩
        have hz := tmod20 (g.e (4 * i + k))
        have he := h3 (4 * i + k) (by omega)
        have hd0 : 0 < g.d ∧ g.d ≤ 2 := by unfold Grd.d; split <;> omega
        (refine ev ?_; try with_reducible exact trivial)
        refine ⟨⟨by omega, by omega⟩, ?_⟩
        refine callF_of (Tryz.qof ((g.e (4 * i + k)).tmod 20) g.d hd0.1 (by rw [inR_i64]; omega) (by rw [inR_i64]; omega)) ?_
        (refine ev ?_; try with_reducible exact trivial)
        exact ⟨by omega, by omega, by omega, ⟨k + 1, by omega, by rw [strs_succ]; rfl, by simp⟩, by omega⟩
      · obtain rfl : k = g.c % 5 := by omega
        exact ⟨by omega, by omega, by omega, ⟨i + 1, by omega, by rw [rowsD_succ], by simp⟩, by omega⟩
    · obtain rfl : i = g.n := by omega
      rfl
end Go.Proofs

/-
  MATRIX: the reference's Copy, in the plain walk. Own work.
-/
namespace Go.Proofs
open Go Go.Pi Go.RowKit Go.Shelf Go.Ar Go.Mx

set_option maxRecDepth 100000 in
set_option maxHeartbeats 8000000 in
theorem Tryz.mcopy (n m : Nat) (F : Mtx) (hn : 0 < n) (hn2 : n ≤ 100) (hm : 0 < m) (hm2 : m ≤ 100) (S : Nat → Nat → Prop) (W : World) (vm : Value) (hS : ∀ b j, S b j → b < W.heap.size) (hrm : Rep S W (matD n m F) vm) :
    Calls Tryz.prog 47 #[vm] W fun e W' => ∃ (g cap : Nat) (B C : Nat → Nat), e = .returned (.slice (some ⟨g, 0, none⟩) n cap) ∧ Below W.heap.size W W' ∧ OwnM W' W.heap.size 49 42 g cap n m B C (fun i j => .string ⟨(rt (F i j)).toArray⟩) := by
  have mixed : Tryz.prog.follows .mixedOrders = true := by kernel_rfl
  have t0 := Tryz.underlying35; have a0 := Tryz.isAgg35; have z0 := Tryz.sizeOf35; have v0 := Tryz.zeroValue35; have u0 := run_underlying Tryz.underlying35
  have t1 := Tryz.underlying49; have a1 := Tryz.isAgg49; have z1 := Tryz.sizeOf49; have v1 := Tryz.zeroValue49; have u1 := run_underlying Tryz.underlying49
  have t2 := Tryz.underlying42; have a2 := Tryz.isAgg42; have z2 := Tryz.sizeOf42; have v2 := Tryz.zeroValue42; have u2 := run_underlying Tryz.underlying42
  have t3 := Tryz.underlying4; have a3 := Tryz.isAgg4; have z3 := Tryz.sizeOf4; have v3 := Tryz.zeroValue4; have u3 := run_underlying Tryz.underlying4
  have t4 := Tryz.underlying3; have a4 := Tryz.isAgg3; have z4 := Tryz.sizeOf3; have v4 := Tryz.zeroValue3; have u4 := run_underlying Tryz.underlying3
  have infoRow : (Tryz.prog.info? 49).map (fun i => (i.zero, i.size, i.bytes)) = some (some (.slice none 0 0), 1, 24) := by kernel_rfl
  have infoStr : (Tryz.prog.info? 42).map (fun i => (i.zero, i.size, i.bytes)) = some (some (.string ⟨#[]⟩), 1, 16) := by kernel_rfl
  obtain ⟨ir, hir, hirr⟩ := Option.map_eq_some_iff.1 infoRow
  simp only [Prod.mk.injEq] at hirr
  obtain ⟨is, his, hisr⟩ := Option.map_eq_some_iff.1 infoStr
  simp only [Prod.mk.injEq] at hisr
  obtain ⟨b0, o0, cap0, rv, bv, ov, cv, rfl, hrl, hrow⟩ : ∃ b0 o0 cap0, ∃ (rv : Nat → Value) (bv ov cv : Nat → Nat), vm = .slice (some ⟨b0, o0, none⟩) n cap0 ∧ b0 < W.heap.size ∧ ∀ k, k < n → W.cell? ⟨b0, o0 + k, none⟩ = some (.slice (some ⟨bv k, ov k, none⟩) m (cv k)) ∧ bv k < W.heap.size ∧ ∀ j, j < m → W.cell? ⟨bv k, ov k + j, none⟩ = some (.string ⟨(rt (F k j)).toArray⟩) := by
    generalize hd : rowsD n m F = ds at hrm
    cases hrm with
    | sl0 => omega
    | sl _ _ b off cap vs hl h1 hnn hc hr h =>
      subst hd
      rw [rowsD_len] at hl
      have key : ∀ k, ∃ (v : Value) (b1 o1 c1 : Nat), k < n → W.cell? ⟨b, off + k, none⟩ = some (.slice (some ⟨b1, o1, none⟩) m c1) ∧ b1 < W.heap.size ∧ ∀ j, j < m → W.cell? ⟨b1, o1 + j, none⟩ = some (.string ⟨(rt (F k j)).toArray⟩) := by
        intro k
        by_cases hk : k < n
        · have hv : vs[k]? = some vs[k] := List.getElem?_eq_getElem (by omega)
          have hrk := h k _ _ (lst_at _ hk) hv
          have hck := (hr k _ hv).2
          generalize vs[k] = v at *
          generalize hd : strs m (F k) = ds at hrk
          cases hrk with
          | sl0 => omega
          | sl _ _ b1 o1 c1 us hl1 _ _ _ hr1 h1 =>
            subst hd
            rw [strs_len] at hl1
            refine ⟨default, b1, o1, c1, fun _ => ⟨hck, ?_, fun j hj => ?_⟩⟩
            · exact hS b1 _ (hr1 0 _ (List.getElem?_eq_getElem (by omega))).1
            · have hu : us[j]? = some us[j] := List.getElem?_eq_getElem (by omega)
              have := (h1 j _ _ (lst_at _ hj) hu).str_inv.1
              rw [this] at hu
              exact (hr1 j _ hu).2
        · exact ⟨default, 0, 0, 0, fun h => absurd h hk⟩
      exact ⟨b, off, cap, fun k => (key k).choose, fun k => (key k).choose_spec.choose, fun k => (key k).choose_spec.choose_spec.choose, fun k => (key k).choose_spec.choose_spec.choose_spec.choose, rfl, hS b _ (hr 0 _ (List.getElem?_eq_getElem (by omega))).1, fun k hk => (key k).choose_spec.choose_spec.choose_spec.choose_spec hk⟩
  clear hrm
  go_enter Tryz.func47, Tryz.ntmps47
  go_wp2
  go_loopg [4, 3] n (fun gg s4 s3 wr => ∃ (k : Nat) (B C : Nat → Nat), s4 = .int .i64 k ∧ k ≤ n ∧ n ≤ gg + k ∧ OwnQ wr W.heap.size 49 42 s3 k m B C (fun i j => .string ⟨(rt (F i j)).toArray⟩) ∧ Below W.heap.size W wr)
  case atStart => exact ⟨0, fun _ => 0, fun _ => 0, rfl, by omega, by omega, ⟨World.ownsRow_nil _ _ _ _, fun _ h => absurd h (by omega), fun _ _ h => absurd h (by omega)⟩, Below.refl _ _⟩
  case round =>
    obtain ⟨k, B, C, rfl, hk, hgk, hq, hbw⟩ := hrel
    by_cases hlt : k < n
    · have ck := (hbw.cell (p := ⟨b0, o0 + k, none⟩) hrl).trans (hrow k hlt).1
      have hkz : (k : Int) < (n : Int) := by omega
      have hk0 : (0 : Int) ≤ (k : Int) := Int.natCast_nonneg _
      obtain ⟨q1, q2, q3⟩ := hq
      have HQ : Hid ((∀ i, i < k → wr.ownsRow W.heap.size 42 1 (.slice (some ⟨B i, 0, none⟩) m (C i)) m (lst m fun j => .string ⟨(rt (F i j)).toArray⟩)) ∧ (∀ i j, i < k → j < k → B i = B j → i = j)) := ⟨q2, q3⟩
      clear q2 q3
      have ck : (wr.alloc (.cells #[] 42)).cell? ⟨b0, o0 + k, none⟩ = some (.slice (some ⟨bv k, ov k, none⟩) m (cv k)) := (World.cell?_alloc_some _ _ _ (by rw [ck]; rfl)).trans ck
      have ho0 : (wr.alloc (.cells #[] 42)).ownsRow wr.heap.size 42 1 (.slice (some ⟨wr.heap.size, 0, none⟩) 0 0) 0 [] := ⟨rfl, .inr ⟨wr.heap.size, 0, #[], rfl, Nat.le_refl _, heap_alloc_new wr _, Nat.le_refl _, Nat.zero_le _, rfl, rfl⟩⟩
      have hcl : ∀ (j : Nat) (u : Value), (lst m fun j => Value.string ⟨(rt (F k j)).toArray⟩)[j]? = some u → (wr.alloc (.cells #[] 42)).cell? ((⟨bv k, ov k, none⟩ : Addr).add j) = some u := fun j u hj => by
        have hjm : j < m := by have := (List.getElem?_eq_some_iff.1 hj).1; rw [lst_len] at this; exact this
        rw [lst_at _ hjm] at hj
        cases hj
        rw [show (⟨bv k, ov k, none⟩ : Addr).add j = ⟨bv k, ov k + j, none⟩ by unfold Addr.add; split <;> simp_all]
        have h1 := (hbw.cell (p := ⟨bv k, ov k + j, none⟩) (hrow k hlt).2.1).trans ((hrow k hlt).2.2 j hjm)
        exact (World.cell?_alloc_some _ _ _ (by rw [h1]; rfl)).trans h1
      have hon : ∀ u ∈ (lst m fun j => Value.string ⟨(rt (F k j)).toArray⟩), u.oneCell' = true := fun u hu => by
        obtain ⟨j, _, rfl⟩ := List.mem_map.1 hu
        rfl
      have hbs := hbw.size
      go_wp2_with (first
        | (at_builtin; refine wpList_append_own _ rfl _ _ 49 rfl wr.heap.size 42 is (.string ⟨#[]⟩) 1 16 Tryz.underlying49 his hisr.1 hisr.2.1 hisr.2.2 rfl (by decide) _ 0 [] rfl ho0 ⟨bv k, ov k, none⟩ m (cv k) (lst m fun j => .string ⟨(rt (F k j)).toArray⟩) rfl (by rw [lst_len, Nat.mul_one]) hcl hon (by unfold maxLen; omega) (by omega) (by simp) ?_; intro v1 w1 ho1 hg1 hn1; rw [Nat.zero_add, List.nil_append] at ho1; obtain ⟨b1, c1, rfl, hb11, hb12⟩ := ho1.form hm; have hb1 : Below wr.heap.size wr w1 := ((Below.refl wr.heap.size wr).alloc (Nat.le_refl _) _).grown hg1 (by simp) (fun k hk => by cases hk; exact Nat.le_refl _); have q11 := q1.kept (gr_below (r := none) hb1) (Classical.em _))
        | (at_builtin; refine wpList_append_own _ rfl _ _ 35 rfl W.heap.size 49 ir (.slice none 0 0) 1 24 Tryz.underlying35 hir hirr.1 hirr.2.1 hirr.2.2 rfl (by decide) _ k _ rfl (q11.alloc _) ⟨w1.heap.size, 0, none⟩ 1 1 [.slice (some ⟨b1, 0, none⟩) m c1] rfl rfl (World.news_of_block (heap_alloc_new w1 _)) (by simp [Value.oneCell']) (by unfold maxLen; omega) (by omega) (by simp; have := hb1.size; have := hbw.size; omega) ?_; intro v5 w5 ho5 hg5 hn5))
      have hbl : Below W.heap.size W w5 := ((hbw.trans (hb1.mono hbw.size)).alloc (by have := hb1.size; have := hbw.size; omega) _).grown hg5 (by have := hb1.size; have := hbw.size; simp; omega) (fun k hk => (q1.lt k hk).1)
      have hpush := OwnQ.push (X := fun i j => .string ⟨(rt (F i j)).toArray⟩) ⟨q1, HQ.out.1, HQ.out.2⟩ (by decide) hbw.size hb1 ho1 ho5 hg5
      go_roundg (n - (k + 1))
      case measure => omega
      case rel =>
        refine ⟨k + 1, fun i => if i = k then b1 else B i, fun i => if i = k then c1 else C i, by go_num, by omega, by omega, ?_, hbl⟩
        have e : (fun i => if i = k then (fun j => Value.string ⟨(rt (F k j)).toArray⟩) else fun j => Value.string ⟨(rt (F i j)).toArray⟩) = fun i j => Value.string ⟨(rt (F i j)).toArray⟩ := by
          funext i
          split
          · rename_i e; rw [e]
          · rfl
        rw [e] at hpush
        exact hpush
    · have hkz : ¬(k : Int) < (n : Int) := by omega
      obtain rfl : n = k := by omega
      obtain ⟨g, cap, rfl, hM⟩ := hq.whole hn (by decide)
      clear hq hkz hk hgk hrow hrl
      go_wp2
      go_ret
      exact ⟨g, cap, B, C, rfl, hbw, hM⟩
end Go.Proofs

/-
  MATRIX: the reference's Reduced, in the plain walk. Own work.
-/
namespace Go.Proofs
open Go Go.Pi Go.RowKit Go.Shelf Go.Ar Go.Mx

/-- row d divided by a number, up to column t -/
def sclD (G : Mtx) (d : Nat) (f : Rat) (t : Nat) : Mtx := fun i k => if i = d ∧ k < t then G i k / f else G i k
set_option maxRecDepth 100000 in
set_option maxHeartbeats 8000000 in
theorem Tryz.xreduced (n m : Nat) (F : Mtx) (hn : 0 < n) (hn2 : n ≤ 12) (hm : 0 < m) (hm2 : m ≤ 24) (hb : Bnd n m m F) :
    Con Tryz.prog Tryz.L 19 [matD n m F] (.tup [matD (redM n F m).lead.length m (redM n F m).F, .sl (redM n F m).lead.length ((redM n F m).lead.map fun c : Nat => .int .i64 c), .str (rt (facG (redM n F m)))]) := by
  have mixed : Tryz.prog.follows .mixedOrders = true := by kernel_rfl
  have t0 := Tryz.underlying35; have a0 := Tryz.isAgg35; have z0 := Tryz.sizeOf35; have v0 := Tryz.zeroValue35; have u0 := run_underlying Tryz.underlying35
  have t1 := Tryz.underlying49; have a1 := Tryz.isAgg49; have z1 := Tryz.sizeOf49; have v1 := Tryz.zeroValue49; have u1 := run_underlying Tryz.underlying49
  have t2 := Tryz.underlying42; have a2 := Tryz.isAgg42; have z2 := Tryz.sizeOf42; have v2 := Tryz.zeroValue42; have u2 := run_underlying Tryz.underlying42
  have t3 := Tryz.underlying4; have a3 := Tryz.isAgg4; have z3 := Tryz.sizeOf4; have v3 := Tryz.zeroValue4; have u3 := run_underlying Tryz.underlying4
  have t4 := Tryz.underlying3; have a4 := Tryz.isAgg3; have z4 := Tryz.sizeOf3; have v4 := Tryz.zeroValue3; have u4 := run_underlying Tryz.underlying3
  have t5 := Tryz.underlying30; have a5 := Tryz.isAgg30; have z5 := Tryz.sizeOf30; have v5 := Tryz.zeroValue30; have u5 := run_underlying Tryz.underlying30
  obtain ⟨ii, hii, hiir⟩ := Option.map_eq_some_iff.1 Tryz.infoInt
  simp only [Prod.mk.injEq] at hiir
  refine ⟨⟨by kernel_rfl, rfl⟩, fun S W vs hS hL hrep => ?_⟩
  obtain ⟨vm, r1, rfl, hrm, t1'⟩ := hrep.uncons
  obtain rfl : r1 = [] := List.length_eq_zero_iff.1 t1'.1.symm
  clear t1' hrep
  obtain ⟨am, cm, rfl⟩ : ∃ a cap, vm = .slice a n cap := by
    generalize hd : rowsD n m F = ds at hrm
    cases hrm <;> exact ⟨_, _, rfl⟩
  have hcp := Tryz.mcopy n m F hn (by omega) hm (by omega) S W _ hS hrm
  have hco := fun (W1 : World) (hb1 : Below W.heap.size W W1) => (Tryz.xcolumns n m F (by omega) (by omega)).2 S W1 [.slice am n cm] (fun b j h => Nat.lt_of_lt_of_le (hS b j h) hb1.size) (Tryz.hL W W1 hL hb1) (Reps.cons (hrm.mono (fun _ _ z => z) (fun b o z => hb1.cell (p := ⟨b, o, none⟩) (hS b o z))) .nil)
  have HB : Hid (Bnd n m m F) := hb
  clear hb hrm
  show Calls _ _ #[.slice am n cm] _ _
  go_enter Tryz.func19, Tryz.ntmps19
  go_wp2_with (go_at_call 47; refine Calls.mono hcp ?_; rintro e W1 ⟨g, cap, B, C, rfl, hb1, hM⟩)
  have hgc' : n ≤ cap := by
    rcases hM.top.2 with ⟨h1, _⟩ | ⟨g', cap', cur, h1, _, _, h2, _⟩
    · simp at h1
    · simp only [Value.slice.injEq] at h1
      obtain ⟨_, _, rfl⟩ := h1; exact h2
  have hcapz : (n : Int) ≤ (cap : Int) := by omega
  have hcap0 : ¬cap = 0 := by omega
  clear hcp
  go_loopg [8, 6, 7] m (fun gg s8 s6 s7 wr => ∃ (c : Nat) (B C : Nat → Nat), s8 = .int .i64 c ∧ c ≤ m ∧ m ≤ gg + c ∧ OwnL W wr 49 42 3 g cap n m B C (fun i j => .string ⟨(rt ((redM n F c).F i j)).toArray⟩) s6 (redM n F c).lead.length ((redM n F c).lead.map fun x : Nat => .int .i64 x) ∧ s7 = .string ⟨(rt (facG (redM n F c))).toArray⟩)
  case atStart => exact ⟨0, B, C, rfl, by omega, by omega, ⟨hM, World.ownsRow_nil _ _ _ _, hb1⟩, by simp [redM, facG, rt_one.2 rfl]⟩
  case round =>
    clear hM hb1
    obtain ⟨c, B, C, rfl, hcm, hgc, hK, rfl⟩ := hrel
    have hgd := good_red n F c
    obtain ⟨hb1, hb2⟩ := HB.out c hcm
    have hcol := hco _ hK.bel
    have HN : Hid (redM n F (c + 1) = stpM n (redM n F c) c) := rfl
    have HS : Hid (∀ i, i < n → ∀ j, j < m → rd ((redM n F c).F i j) ≤ 900) := hb1
    have HG : Hid (GoodR n c (redM n F c)) := hgd
    have HF9 : Hid (rd (facG (redM n F c)) ≤ 900) := by
      show _ ≤ _
      unfold facG; split
      · decide +kernel
      · exact hb2
    have hlen := hgd.len
    by_cases hlt : c < m
    · have hcz : (c : Int) < (m : Int) := by omega
      have hc0 : (0 : Int) ≤ (c : Int) := Int.natCast_nonneg _
      clear hgd hb1 hb2
      generalize redM n F c = s at *
      have hd0 : (0 : Int) ≤ (s.lead.length : Int) := Int.natCast_nonneg _
      have vsl : ∃ ad cp, u6 = .slice ad s.lead.length cp := by
        rcases hK.ld.2 with ⟨h1, h2⟩ | ⟨g, cap, cur, h1, _⟩
        · exact ⟨none, 0, by rw [h1, h2]⟩
        · exact ⟨_, _, h1⟩
      obtain ⟨ad, cp, rfl⟩ := vsl
      go_wp2_with (go_at_call 16; refine Calls.mono hcol ?_; rintro e W2 ⟨v2, rfl, hbc, hr2⟩; obtain rfl : v2 = .int .i64 m := (by cases hr2; rfl); clear hr2 hcol; have hK2 := hK.below hbc; clear hbc)
      clear hK
      have HK2 : Hid (OwnL W W2 49 42 3 g cap n m B C (fun i j => .string ⟨(rt (s.F i j)).toArray⟩) (.slice ad s.lead.length cp) s.lead.length (s.lead.map fun x : Nat => .int .i64 x)) := hK2
      clear hK2
      go_loopg [10] (n - s.lead.length) (fun gg s10 wq => ∃ p : Nat, s10 = .int .i64 p ∧ s.lead.length ≤ p ∧ p ≤ n ∧ n ≤ gg + p ∧ Hid (lookM s.F c (n - s.lead.length) s.lead.length = lookM s.F c (n - p) p) ∧ wq = W2)
      case atStart => exact ⟨s.lead.length, rfl, Nat.le_refl _, hlen, by omega, rfl, rfl⟩
      case round =>
        obtain ⟨p, rfl, hp1, hp2, hgp, HLk, rfl⟩ := hrel
        have hpz0 : (0 : Int) ≤ (p : Int) := Int.natCast_nonneg _
        by_cases hpn : p < n
        · have hpz : (p : Int) < (n : Int) := by omega
          have ct := HK2.out.mat.topCell (i := p) hpn
          have cr := HK2.out.mat.rowCell (i := p) (j := c) hpn hlt
          by_cases hz : s.F p c = 0
          · rw [rt_zero.2 hz] at cr
            have HZ : Hid (s.F p c = 0) := hz
            clear hz
            go_wp2
            go_roundg (n - (p + 1))
            case measure => omega
            case rel =>
              refine ⟨p + 1, by go_num, by omega, by omega, by omega, ?_, rfl⟩
              have h := HLk.out
              obtain ⟨f, hf⟩ : ∃ f, n - p = f + 1 := ⟨n - p - 1, by omega⟩
              rw [hf, lookM, if_pos HZ.out] at h
              show _ = _
              rw [h]; congr 1; omega
          · have hzr : (rt (s.F p c) == [48]) = false := by rw [Bool.eq_false_iff]; simp [rt_zero, hz]
            have hlook : lookM s.F c (n - s.lead.length) s.lead.length = p := by
              rw [HLk.out]
              obtain ⟨f, hf⟩ : ∃ f, n - p = f + 1 := ⟨n - p - 1, by omega⟩
              rw [hf, lookM, if_neg hz]
            have hlk : s.lead.length < n := by omega
            have hlkz : (s.lead.length : Int) < (n : Int) := by omega
            have hst := stp_found (s := s) (c := c) (by rw [hlook]; exact hpn)
            have hfg := facG_found (n := n) (s := s) (c := c) (by rw [hlook]; exact hpn)
            rw [← HN.out, hlook] at hst hfg
            obtain ⟨G, hG⟩ : ∃ G, G = swpM s.F s.lead.length p := ⟨_, rfl⟩
            have HGd : Hid (G s.lead.length = s.F p) := by show _ = _; rw [hG]; simp [swpM]
            have HP : Hid (G s.lead.length c ≠ 0) := by show _ ≠ _; rw [HGd.out]; exact hz
            have HB3 : Hid (∀ i, i < n → ∀ k, k < m → rd (G i k) ≤ 900) := fun i hi k hk => by
              rw [hG]; unfold swpM
              split
              · exact HS.out _ hpn k hk
              · split
                · exact HS.out _ hlk k hk
                · exact HS.out i hi k hk
            have HGG : Hid (G = swpM s.F s.lead.length p) := hG
            have HT2 : Hid ((redM n F (c + 1)).F = clrM (sclM G s.lead.length c) s.lead.length c ∧ (redM n F (c + 1)).lead = s.lead ++ [c]) := ⟨by rw [hst, hG], by rw [hst]⟩
            have HFG : Hid (facG (redM n F (c + 1)) = (if p = s.lead.length then facG s else -facG s) * s.F p c) := hfg
            clear hst hfg hG hz hlook
            by_cases hpk : s.lead.length < p
            focus
              have n1 : ¬(p : Int) = (s.lead.length : Int) := by omega
              have n2 : s.lead.length ≠ p := by omega
              have n3 : p ≠ s.lead.length := by omega
              go_wp2_with fail
              have c1 := HK2.out.mat.topCell (i := s.lead.length) hlk
              have c2 := HK2.out.mat.topCell (i := p) hpn
              have f1 := HK2.out.mat.topFrozen s.lead.length
              have f2 := HK2.out.mat.topFrozen p
              clear ct cr
              go_big_region_o
              have hsw := (HK2.out.swap (by decide) hpn hlk).drew
              have HX : Hid (∃ B' C' : Nat → Nat, OwnL W (((wr.setCell ⟨g, p, none⟩ (.slice (some ⟨B s.lead.length, 0, none⟩) m (C s.lead.length))).setCell ⟨g, s.lead.length, none⟩ (.slice (some ⟨B p, 0, none⟩) m (C p))).drew) 49 42 3 g cap n m B' C' (fun i j => .string ⟨(rt (G i j)).toArray⟩) (.slice ad s.lead.length cp) s.lead.length (s.lead.map fun x : Nat => .int .i64 x)) := by
                refine ⟨_, _, hsw.congr fun a ha b hb => ?_⟩
                rw [HGG.out]
                unfold swpM
                by_cases e1 : a = p
                · by_cases e2 : a = s.lead.length
                  · omega
                  · simp only [if_pos e1, if_neg e2]
                · by_cases e2 : a = s.lead.length
                  · simp only [if_neg e1, if_pos e2]
                  · simp only [if_neg e1, if_neg e2]
              clear c1 c2 f1 f2 hsw n1 n2 n3
              generalize (((wr.setCell ⟨g, p, none⟩ (.slice (some ⟨B s.lead.length, 0, none⟩) m (C s.lead.length))).setCell ⟨g, s.lead.length, none⟩ (.slice (some ⟨B p, 0, none⟩) m (C p))).drew) = W3 at HX ⊢
              obtain ⟨B', C', hK3⟩ := HX.out
              clear HX HK2
              have hng := (Tryz.qneg (facG s) (by have := HF9.out; omega)).2 (fun _ _ => False) W3 [.string ⟨(rt (facG s)).toArray⟩] (fun _ _ h => h.elim) (Tryz.hL W _ hL hK3.bel) (Reps.cons (.str _ (by have := rt_len (facG s); have := HF9.out; unfold maxLen; omega)) .nil)
              have HK3 : Hid (OwnL W W3 49 42 3 g cap n m B' C' (fun i j => .string ⟨(rt (G i j)).toArray⟩) (.slice ad s.lead.length cp) s.lead.length (s.lead.map fun x : Nat => .int .i64 x)) := hK3
              clear hK3
              have hmuF := fun (W' : World) (h2 : Below W.heap.size W W') => (Tryz.qmul (-facG s) (G s.lead.length c) (by have := HF9.out; rw [rd_neg]; omega) (by have := HB3.out _ hlk _ hlt; omega)).2 (fun _ _ => False) W' [.string ⟨(rt (-facG s)).toArray⟩, .string ⟨(rt (G s.lead.length c)).toArray⟩] (fun _ _ h => h.elim) (Tryz.hL W _ hL h2) (Reps.cons (.str _ (by have := rt_len (-facG s); have := HF9.out; have := rd_neg (facG s); unfold maxLen; omega)) (Reps.cons (.str _ (by have := rt_len (G s.lead.length c); have := HB3.out _ hlk _ hlt; unfold maxLen; omega)) .nil))
              go_wp2_with (first | (go_at_call 48; refine Calls.mono hng ?_; rintro e W4 ⟨v4, rfl, hb4, hr4⟩; obtain rfl : v4 = .string ⟨(rt (-facG s)).toArray⟩ := (by cases hr4; rfl); clear hr4 hng; have hK4 := HK3.out.below hb4; clear hb4 HK3; have c1 := hK4.mat.topCell (i := s.lead.length) hlk; have cr := hK4.mat.rowCell (i := s.lead.length) (j := c) hlk hlt) | (go_at_call 33; refine Calls.mono (hmuF _ hK4.bel) ?_; rintro e W5 ⟨v5, rfl, hb5, hr5⟩; obtain rfl : v5 = .string ⟨(rt ((-facG s) * G s.lead.length c)).toArray⟩ := (by cases hr5; rfl); clear hr5 hmuF; have HK5 : Hid (OwnL W W5 49 42 3 g cap n m B' C' (fun i j => .string ⟨(rt (G i j)).toArray⟩) (.slice ad s.lead.length cp) s.lead.length (s.lead.map fun x : Nat => .int .i64 x)) := hK4.below hb5; clear hb5 hK4 c1 cr))
              have HFq : Hid ((-facG s) * G s.lead.length c = facG (redM n F (c + 1)) ∧ rd (-facG s) ≤ 900) := ⟨by rw [HFG.out, HGd.out, if_neg (by omega)], by rw [rd_neg]; exact HF9.out⟩
              generalize -facG s = q at *
            rotate_left
            focus
              obtain rfl : p = s.lead.length := by omega
              have e0 : G = s.F := by
                rw [HGG.out]; funext i
                unfold swpM
                split
                · rename_i e; rw [e]
                · rfl
              have hK4 : OwnL W wr 49 42 3 g cap n m B C (fun i j => .string ⟨(rt (G i j)).toArray⟩) (.slice ad s.lead.length cp) s.lead.length (s.lead.map fun x : Nat => .int .i64 x) := by rw [e0]; exact HK2.out
              have c1 := hK4.mat.topCell (i := s.lead.length) hlk
              have cr := hK4.mat.rowCell (i := s.lead.length) (j := c) hlk hlt
              have hzr2 : (rt (G s.lead.length c) == [48]) = false := by rw [HGd.out]; exact hzr
              have HFq : Hid (facG s * G s.lead.length c = facG (redM n F (c + 1)) ∧ rd (facG s) ≤ 900) := ⟨by rw [HFG.out, HGd.out, if_pos rfl], HF9.out⟩
              clear e0 HK2 ct
              generalize facG s = q at *
              obtain ⟨B', hB'⟩ : ∃ B', B' = B := ⟨B, rfl⟩
              obtain ⟨C', hC'⟩ : ∃ C', C' = C := ⟨C, rfl⟩
              rw [← hB'] at cr
              rw [← hB', ← hC'] at hK4 c1
              clear hB' hC'
              have hgr : rd (G s.lead.length c) ≤ 900 := HB3.out _ hlk _ hlt
              have hlq := rt_len q
              have hlg := rt_len (G s.lead.length c)
              have hq9 := HFq.out.2
              have hmu := (Tryz.qmul q (G s.lead.length c) (by omega) (by omega)).2 (fun _ _ => False) wr [.string ⟨(rt (q)).toArray⟩, .string ⟨(rt (G s.lead.length c)).toArray⟩] (fun _ _ h => h.elim) (Tryz.hL W _ hL hK4.bel) (Reps.cons (.str _ (by unfold maxLen; omega)) (Reps.cons (.str _ (by unfold maxLen; omega)) .nil))
              have HK4 : Hid (OwnL W wr 49 42 3 g cap n m B' C' (fun i j => .string ⟨(rt (G i j)).toArray⟩) (.slice ad s.lead.length cp) s.lead.length (s.lead.map fun x : Nat => .int .i64 x)) := hK4
              clear hK4 hlq hlg hq9 hgr
              go_wp2_with (go_at_call 33; refine Calls.mono hmu ?_; rintro e W5 ⟨v5, rfl, hb5, hr5⟩; obtain rfl : v5 = .string ⟨(rt (q * G s.lead.length c)).toArray⟩ := (by cases hr5; rfl); clear hr5 hmu; have HK5 : Hid (OwnL W W5 49 42 3 g cap n m B' C' (fun i j => .string ⟨(rt (G i j)).toArray⟩) (.slice ad s.lead.length cp) s.lead.length (s.lead.map fun x : Nat => .int .i64 x)) := HK4.out.below hb5; clear hb5 HK4)
              clear c1 cr
            all_goals
              clear HFG HGd HGG HF9 HN HS
              go_loopg [12] m (fun gg s12 wq => ∃ t : Nat, s12 = .int .i64 t ∧ t ≤ m ∧ m ≤ gg + t ∧ OwnL W wq 49 42 3 g cap n m B' C' (fun i k => .string ⟨(rt (sclD G s.lead.length (G s.lead.length c) t i k)).toArray⟩) (.slice ad s.lead.length cp) s.lead.length (s.lead.map fun x : Nat => .int .i64 x))
              case atStart => exact ⟨0, rfl, by omega, by omega, HK5.out.congr fun a _ b _ => by simp [sclD]⟩
              case round =>
                clear HK5
                obtain ⟨t, rfl, ht, hgt, hK⟩ := hrel
                have ct := hK.mat.topCell (i := s.lead.length) hlk
                by_cases htm : t < m
                · have htz : (t : Int) < (m : Int) := by omega
                  have ht0 : (0 : Int) ≤ (t : Int) := Int.natCast_nonneg _
                  go_wp2_with fail
                  have hgt9 : rd (G s.lead.length t) ≤ 900 := HB3.out _ hlk _ htm
                  have hgc9 : rd (G s.lead.length c) ≤ 900 := HB3.out _ hlk _ hlt
                  have hlt9 := rt_len (G s.lead.length t)
                  have hlc9 := rt_len (G s.lead.length c)
                  have hdv := (Tryz.qdiv (G s.lead.length t) (G s.lead.length c) (by omega) (by omega) HP.out).2 (fun _ _ => False) wr.drew [.string ⟨(rt (G s.lead.length t)).toArray⟩, .string ⟨(rt (G s.lead.length c)).toArray⟩] (fun _ _ h => h.elim) (Tryz.hL W _ hL hK.drew.bel) (Reps.cons (.str _ (by unfold maxLen; omega)) (Reps.cons (.str _ (by unfold maxLen; omega)) .nil))
                  have c1 := hK.drew.mat.topCell (i := s.lead.length) hlk
                  have cr := hK.drew.mat.rowCell (i := s.lead.length) (j := t) hlk htm
                  rw [show sclD G s.lead.length (G s.lead.length c) t s.lead.length t = G s.lead.length t from if_neg (by omega)] at cr
                  have fr := hK.drew.mat.rowFrozen (i := s.lead.length) hlk t
                  have hKd : Hid (OwnL W wr.drew 49 42 3 g cap n m B' C' (fun i k => .string ⟨(rt (sclD G s.lead.length (G s.lead.length c) t i k)).toArray⟩) (.slice ad s.lead.length cp) s.lead.length (s.lead.map fun x : Nat => .int .i64 x)) := hK.drew
                  have n1 := hKd.out.mat.ne _ hlk
                  have n2 := n1.symm
                  clear hK ct hlt9 hlc9 hgt9 hgc9
                  go_region_with
                    (first
                      | (go_at_call 49; refine Calls.mono hdv ?_; rintro e W7 ⟨v7, rfl, hb7, hr7⟩; obtain rfl : v7 = .string ⟨(rt (G s.lead.length t / G s.lead.length c)).toArray⟩ := (by cases hr7; rfl); clear hr7; have hK9 := hKd.out.below hb7; have d1 := hK9.mat.topCell (i := s.lead.length) hlk; have d2 := (hb7.cell (p := ⟨B' s.lead.length, t, none⟩) (hKd.out.mat.rowLt hlk).2).trans cr; have d3 := hK9.mat.rowFrozen (i := s.lead.length) hlk t; clear hb7))
                  all_goals
                    have hK10 : Hid (OwnL W (W7.setCell ⟨B' s.lead.length, t, none⟩ (.string ⟨(rt (G s.lead.length t / G s.lead.length c)).toArray⟩)) 49 42 3 g cap n m B' C' (fun i k => .string ⟨(rt (sclD G s.lead.length (G s.lead.length c) (t + 1) i k)).toArray⟩) (.slice ad s.lead.length cp) s.lead.length (s.lead.map fun x : Nat => .int .i64 x)) := (hK9.setRow (by decide) hlk t _).congr fun a _ b _ => by
                      unfold sclD
                      by_cases e1 : a = s.lead.length
                      · by_cases e2 : b = t
                        · rw [if_pos ⟨e1, e2⟩, if_pos ⟨e1, by omega⟩, e1, e2]
                        · rw [if_neg (fun h => e2 h.2)]
                          by_cases e3 : b < t
                          · rw [if_pos ⟨e1, e3⟩, if_pos ⟨e1, by omega⟩]
                          · rw [if_neg (fun h => e3 h.2), if_neg (fun h => by have := h.2; omega)]
                      · rw [if_neg (fun h => e1 h.1), if_neg (fun h => e1 h.1), if_neg (fun h => e1 h.1)]
                    clear hK9 d1 d2 d3 n1 n2 hdv c1 cr fr hKd
                    go_wp2_with fail
                    go_roundg (m - (t + 1))
                    case measure => omega
                    case rel => exact ⟨t + 1, by go_num, by omega, by omega, hK10.out⟩
                · have htz : ¬(t : Int) < (m : Int) := by omega
                  obtain rfl : m = t := by omega
                  have hK11 : Hid (OwnL W wr 49 42 3 g cap n m B' C' (fun i k => .string ⟨(rt (sclM G s.lead.length c i k)).toArray⟩) (.slice ad s.lead.length cp) s.lead.length (s.lead.map fun x : Nat => .int .i64 x)) := hK.congr fun a _ b hb => by
                    unfold sclD sclM
                    by_cases e1 : a = s.lead.length
                    · rw [if_pos ⟨e1, hb⟩, if_pos e1, e1]
                    · rw [if_neg (fun h => e1 h.1), if_neg e1]
                  clear hK
                  go_wp2_with fail
                  clear ct
                  have HR : Hid (∀ a, a < n → ∀ b, b < m → rd (sclM G s.lead.length c a b) ≤ 1800) := fun a ha b hb => by
                    unfold sclM
                    split
                    · have h1 := rd_div (G s.lead.length b) (G s.lead.length c)
                      have h2 := HB3.out _ hlk b hb
                      have h3 := HB3.out _ hlk c hlt
                      show rd (G s.lead.length b / G s.lead.length c) ≤ 1800
                      omega
                    · have := HB3.out a ha b hb; omega
                  obtain ⟨H, hH⟩ : ∃ H, H = sclM G s.lead.length c := ⟨_, rfl⟩
                  have HH : Hid (H = sclM G s.lead.length c) := hH
                  rw [← hH] at hK11 HR HT2
                  clear hH htz htm ht hgt
                  go_loopg [13, 14, 15] n (fun gg s13 s14 s15 wq => ∃ i : Nat, s13 = .int .i64 i ∧ i ≤ n ∧ n ≤ gg + i ∧ OwnL W wq 49 42 3 g cap n m B' C' (fun a b => .string ⟨(rt (clrT H s.lead.length c i a b)).toArray⟩) (.slice ad s.lead.length cp) s.lead.length (s.lead.map fun x : Nat => .int .i64 x))
                  case atStart => exact ⟨0, rfl, by omega, by omega, hK11.out.congr fun a _ b _ => by unfold clrT; rw [if_pos (.inr (Nat.zero_le _))]⟩
                  case round =>
                    clear hK11
                    obtain ⟨i, rfl, hi, hgi, hK⟩ := hrel
                    by_cases hin : i < n
                    · have hiz : (i : Int) < (n : Int) := by omega
                      have hi0 : (0 : Int) ≤ (i : Int) := Int.natCast_nonneg _
                      have ct := hK.mat.topCell (i := i) hin
                      have cr := hK.mat.rowCell (i := i) (j := c) hin hlt
                      rw [show clrT H s.lead.length c i i c = H i c by unfold clrT; rw [if_pos (.inr (Nat.le_refl _))]] at cr
                      by_cases hid : i = s.lead.length
                      · subst hid
                        go_wp2_with fail
                        obtain ⟨wb, hwb⟩ : ∃ wb, wb = wr := ⟨wr, rfl⟩
                        subst hwb
                        go_loopg [15] 0 (fun gg s15 wz => s15 = .int .i64 0 ∧ wz = wb)
                        case atStart => exact ⟨rfl, rfl⟩
                        case round =>
                          obtain ⟨rfl, rfl⟩ := hrel
                          go_wp2_with fail
                          go_roundg (n - (s.lead.length + 1))
                          case measure => omega
                          case rel =>
                            refine ⟨s.lead.length + 1, by go_num, by omega, by omega, hK.congr fun a ha b hb => ?_⟩
                            unfold clrT
                            by_cases e1 : a = s.lead.length
                            · rw [if_pos (.inl e1), if_pos (.inl e1)]
                            · by_cases e2 : s.lead.length ≤ a
                              · rw [if_pos (.inr e2), if_pos (.inr (by omega))]
                              · rw [if_neg (by omega), if_neg (by omega)]
                      · have hidz : ¬(i : Int) = (s.lead.length : Int) := by omega
                        have hidb : ((i : Int) == (s.lead.length : Int)) = false := beq_false_of_ne hidz
                        by_cases hz0 : H i c = 0
                        · rw [rt_zero.2 hz0] at cr
                          have HZ : Hid (H i c = 0) := hz0
                          clear hz0
                          go_wp2_with fail
                          obtain ⟨wb, hwb⟩ : ∃ wb, wb = wr := ⟨wr, rfl⟩
                          subst hwb
                          go_loopg [15] 0 (fun gg s15 wz => s15 = .int .i64 0 ∧ wz = wb)
                          case atStart => exact ⟨rfl, rfl⟩
                          case round =>
                            obtain ⟨rfl, rfl⟩ := hrel
                            go_wp2_with fail
                            go_roundg (n - (i + 1))
                            case measure => omega
                            case rel =>
                              refine ⟨i + 1, by go_num, by omega, by omega, hK.congr fun a ha b hb => ?_⟩
                              unfold clrT
                              by_cases e1 : a = i
                              · rw [if_pos (.inr (by omega)), if_neg (by omega), e1, HZ.out]
                                rw [sub_zeroM]
                              · by_cases e2 : a = s.lead.length ∨ i ≤ a
                                · rw [if_pos e2, if_pos (by omega)]
                                · rw [if_neg e2, if_neg (by omega)]
                        · have hzr : (rt (H i c) == [48]) = false := by rw [Bool.eq_false_iff]; simp [rt_zero, hz0]
                          clear hz0
                          go_wp2_with fail
                          have HID : Hid (i ≠ s.lead.length) := hid
                          clear ct cr hid
                          obtain ⟨wb, hwb⟩ : ∃ wb, wb = wr := ⟨wr, rfl⟩
                          subst hwb
                          go_loopg [15] m (fun gg s15 wz => ∃ t : Nat, s15 = .int .i64 t ∧ t ≤ m ∧ m ≤ gg + t ∧ OwnL W wz 49 42 3 g cap n m B' C' (fun a b => .string ⟨(rt (clrU H s.lead.length c i t a b)).toArray⟩) (.slice ad s.lead.length cp) s.lead.length (s.lead.map fun x : Nat => .int .i64 x))
                          case atStart => exact ⟨0, rfl, by omega, by omega, hK.congr fun a _ b _ => by unfold clrU; rw [if_neg (fun h => absurd h.2 (Nat.not_lt_zero _))]⟩
                          case round =>
                            clear hK
                            obtain ⟨t, rfl, ht, hgt, hK⟩ := hrel
                            have ct := hK.mat.topCell (i := i) hin
                            by_cases htm : t < m
                            · have htz : (t : Int) < (m : Int) := by omega
                              have ht0 : (0 : Int) ≤ (t : Int) := Int.natCast_nonneg _
                              go_wp2_with fail
                              have x1 : rd (H i t) ≤ 1800 := HR.out _ hin _ htm
                              have x2 : rd (H s.lead.length t) ≤ 1800 := HR.out _ hlk _ htm
                              have x3 : rd (H i c) ≤ 1800 := HR.out _ hin _ hlt
                              have x4 := rd_mul (H i c) (H s.lead.length t)
                              have l1 := rt_len (H i t); have l2 := rt_len (H s.lead.length t); have l3 := rt_len (H i c); have l4 := rt_len (H i c * H s.lead.length t)
                              have hmu := (Tryz.qmul (H i c) (H s.lead.length t) (by omega) (by omega)).2 (fun _ _ => False) wr.drew [.string ⟨(rt (H i c)).toArray⟩, .string ⟨(rt (H s.lead.length t)).toArray⟩] (fun _ _ h => h.elim) (Tryz.hL W _ hL hK.drew.bel) (Reps.cons (.str _ (by unfold maxLen; omega)) (Reps.cons (.str _ (by unfold maxLen; omega)) .nil))
                              have hsu := fun (w' : World) (h2 : Below W.heap.size W w') => (Tryz.qsub (H i t) (H i c * H s.lead.length t) (by omega) (by omega)).2 (fun _ _ => False) w' [.string ⟨(rt (H i t)).toArray⟩, .string ⟨(rt (H i c * H s.lead.length t)).toArray⟩] (fun _ _ h => h.elim) (Tryz.hL W _ hL h2) (Reps.cons (.str _ (by unfold maxLen; omega)) (Reps.cons (.str _ (by unfold maxLen; omega)) .nil))
                              have crk := hK.drew.mat.rowCell (i := s.lead.length) (j := t) hlk htm
                              rw [show clrU H s.lead.length c i t s.lead.length t = H s.lead.length t by unfold clrU clrT; rw [if_neg (fun h => HID.out h.1.symm), if_pos (.inl rfl)]] at crk
                              have cri := hK.drew.mat.rowCell (i := i) (j := t) hin htm
                              rw [show clrU H s.lead.length c i t i t = H i t by unfold clrU clrT; rw [if_neg (fun h => absurd h.2 (Nat.lt_irrefl _)), if_pos (.inr (Nat.le_refl _))]] at cri
                              have ci := hK.drew.mat.topCell (i := i) hin
                              have ck := hK.drew.mat.topCell (i := s.lead.length) hlk
                              have fri := hK.drew.mat.rowFrozen (i := i) hin t
                              have n1 := hK.mat.ne i hin
                              have n2 := n1.symm
                              have hKd : Hid (OwnL W wr.drew 49 42 3 g cap n m B' C' (fun a b => .string ⟨(rt (clrU H s.lead.length c i t a b)).toArray⟩) (.slice ad s.lead.length cp) s.lead.length (s.lead.map fun x : Nat => .int .i64 x)) := hK.drew
                              clear hK ct x1 x2 x3 x4 l1 l2 l3 l4
                              refine wp_region_held_drew (S := fun w' => w'.cell? ⟨g, i, none⟩ = some (.slice (some ⟨B' i, 0, none⟩) m (C' i)) ∧ w'.cell? ⟨g, s.lead.length, none⟩ = some (.slice (some ⟨B' s.lead.length, 0, none⟩) m (C' s.lead.length)) ∧ w'.cell? ⟨B' s.lead.length, t, none⟩ = some (.string ⟨(rt (H s.lead.length t)).toArray⟩)) mixed ⟨ci, ck, crk⟩ (fun hHeld => ?_)
                              refine wpAnyH_take (i := 0) (oi := ({ dst := some 131, op := .move (.tmp 5), type := 35, pos := "ref.go:125", after := #[], guard := none } : Oper)) (v := ?_) rfl (by kernel_rfl) (by kernel_rfl) (by kernel_rfl) (fun _ _ _ h => h) (Or.inl ⟨by rfl, ?hy⟩) hHeld ?_
                              case hy => (intro w hSw; (try dsimp only at hSw); go_simp; try with_reducible rfl)
                              simp only [Act.put, List.setIfInBounds_toArray, List.set_cons_zero, List.set_cons_succ]
                              refine wpAnyH_take (i := 1) (oi := ({ dst := some 132, op := .move (.tmp 13), type := 3, pos := "ref.go:125", after := #[], guard := none } : Oper)) (v := ?_) rfl (by kernel_rfl) (by kernel_rfl) (by kernel_rfl) (fun _ _ _ h => h) (Or.inl ⟨by rfl, ?hy⟩) hHeld ?_
                              case hy => (intro w hSw; (try dsimp only at hSw); go_simp; try with_reducible rfl)
                              simp only [Act.put, List.setIfInBounds_toArray, List.set_cons_zero, List.set_cons_succ]
                              refine wpAnyH_take (i := 2) (oi := ({ dst := some 133, op := .indexAddr 35 (.tmp 131) (.tmp 132), type := 0, pos := "ref.go:125", after := #[{ on := 0, ground := .data }, { on := 1, ground := .data }], guard := none } : Oper)) (v := ?_) rfl (by kernel_rfl) (by kernel_rfl) (by kernel_rfl) (fun _ _ _ h => h) (Or.inl ⟨by rfl, ?hy⟩) hHeld ?_
                              case hy => (intro w hSw; (try dsimp only at hSw); go_simp; try with_reducible rfl)
                              simp only [Act.put, List.setIfInBounds_toArray, List.set_cons_zero, List.set_cons_succ]
                              refine wpAnyH_take (i := 3) (oi := ({ dst := some 134, op := .load 49 (.tmp 133), type := 49, pos := "ref.go:125", after := #[{ on := 2, ground := .data }], guard := none } : Oper)) (v := ?_) rfl (by kernel_rfl) (by kernel_rfl) (by kernel_rfl) (fun _ _ _ h => h) (Or.inl ⟨by rfl, ?hy⟩) hHeld ?_
                              case hy => (intro w hSw; (try dsimp only at hSw); go_simp; try with_reducible rfl)
                              simp only [Act.put, List.setIfInBounds_toArray, List.set_cons_zero, List.set_cons_succ]
                              refine wpAnyH_take (i := 4) (oi := ({ dst := some 135, op := .move (.tmp 15), type := 3, pos := "ref.go:125", after := #[], guard := none } : Oper)) (v := ?_) rfl (by kernel_rfl) (by kernel_rfl) (by kernel_rfl) (fun _ _ _ h => h) (Or.inl ⟨by rfl, ?hy⟩) hHeld ?_
                              case hy => (intro w hSw; (try dsimp only at hSw); go_simp; try with_reducible rfl)
                              simp only [Act.put, List.setIfInBounds_toArray, List.set_cons_zero, List.set_cons_succ]
                              refine wpAnyH_take (i := 5) (oi := ({ dst := some 136, op := .move (.tmp 5), type := 35, pos := "ref.go:125", after := #[], guard := none } : Oper)) (v := ?_) rfl (by kernel_rfl) (by kernel_rfl) (by kernel_rfl) (fun _ _ _ h => h) (Or.inl ⟨by rfl, ?hy⟩) hHeld ?_
                              case hy => (intro w hSw; (try dsimp only at hSw); go_simp; try with_reducible rfl)
                              simp only [Act.put, List.setIfInBounds_toArray, List.set_cons_zero, List.set_cons_succ]
                              refine wpAnyH_take (i := 6) (oi := ({ dst := some 137, op := .move (.tmp 13), type := 3, pos := "ref.go:125", after := #[], guard := none } : Oper)) (v := ?_) rfl (by kernel_rfl) (by kernel_rfl) (by kernel_rfl) (fun _ _ _ h => h) (Or.inl ⟨by rfl, ?hy⟩) hHeld ?_
                              case hy => (intro w hSw; (try dsimp only at hSw); go_simp; try with_reducible rfl)
                              simp only [Act.put, List.setIfInBounds_toArray, List.set_cons_zero, List.set_cons_succ]
                              refine wpAnyH_take (i := 7) (oi := ({ dst := some 138, op := .indexAddr 35 (.tmp 136) (.tmp 137), type := 0, pos := "ref.go:125", after := #[{ on := 5, ground := .data }, { on := 6, ground := .data }], guard := none } : Oper)) (v := ?_) rfl (by kernel_rfl) (by kernel_rfl) (by kernel_rfl) (fun _ _ _ h => h) (Or.inl ⟨by rfl, ?hy⟩) hHeld ?_
                              case hy => (intro w hSw; (try dsimp only at hSw); go_simp; try with_reducible rfl)
                              simp only [Act.put, List.setIfInBounds_toArray, List.set_cons_zero, List.set_cons_succ]
                              refine wpAnyH_take (i := 8) (oi := ({ dst := some 139, op := .load 49 (.tmp 138), type := 49, pos := "ref.go:125", after := #[{ on := 7, ground := .data }], guard := none } : Oper)) (v := ?_) rfl (by kernel_rfl) (by kernel_rfl) (by kernel_rfl) (fun _ _ _ h => h) (Or.inl ⟨by rfl, ?hy⟩) hHeld ?_
                              case hy => (intro w hSw; (try dsimp only at hSw); go_simp; try with_reducible rfl)
                              simp only [Act.put, List.setIfInBounds_toArray, List.set_cons_zero, List.set_cons_succ]
                              refine wpAnyH_take (i := 9) (oi := ({ dst := some 140, op := .move (.tmp 15), type := 3, pos := "ref.go:125", after := #[], guard := none } : Oper)) (v := ?_) rfl (by kernel_rfl) (by kernel_rfl) (by kernel_rfl) (fun _ _ _ h => h) (Or.inl ⟨by rfl, ?hy⟩) hHeld ?_
                              case hy => (intro w hSw; (try dsimp only at hSw); go_simp; try with_reducible rfl)
                              simp only [Act.put, List.setIfInBounds_toArray, List.set_cons_zero, List.set_cons_succ]
                              refine wpAnyH_take (i := 10) (oi := ({ dst := some 141, op := .indexAddr 49 (.tmp 139) (.tmp 140), type := 0, pos := "ref.go:125", after := #[{ on := 8, ground := .data }, { on := 9, ground := .data }], guard := none } : Oper)) (v := ?_) rfl (by kernel_rfl) (by kernel_rfl) (by kernel_rfl) (fun _ _ _ h => h) (Or.inl ⟨by rfl, ?hy⟩) hHeld ?_
                              case hy => (intro w hSw; (try dsimp only at hSw); go_simp; try with_reducible rfl)
                              simp only [Act.put, List.setIfInBounds_toArray, List.set_cons_zero, List.set_cons_succ]
                              refine wpAnyH_take (i := 12) (oi := ({ dst := some 143, op := .move (.tmp 14), type := 42, pos := "ref.go:125", after := #[], guard := none } : Oper)) (v := ?_) rfl (by kernel_rfl) (by kernel_rfl) (by kernel_rfl) (fun _ _ _ h => h) (Or.inl ⟨by rfl, ?hy⟩) hHeld ?_
                              case hy => (intro w hSw; (try dsimp only at hSw); go_simp; try with_reducible rfl)
                              simp only [Act.put, List.setIfInBounds_toArray, List.set_cons_zero, List.set_cons_succ]
                              refine wpAnyH_take (i := 13) (oi := ({ dst := some 144, op := .move (.tmp 5), type := 35, pos := "ref.go:125", after := #[], guard := none } : Oper)) (v := ?_) rfl (by kernel_rfl) (by kernel_rfl) (by kernel_rfl) (fun _ _ _ h => h) (Or.inl ⟨by rfl, ?hy⟩) hHeld ?_
                              case hy => (intro w hSw; (try dsimp only at hSw); go_simp; try with_reducible rfl)
                              simp only [Act.put, List.setIfInBounds_toArray, List.set_cons_zero, List.set_cons_succ]
                              refine wpAnyH_take (i := 14) (oi := ({ dst := some 145, op := .move (.tmp 9), type := 3, pos := "ref.go:125", after := #[], guard := none } : Oper)) (v := ?_) rfl (by kernel_rfl) (by kernel_rfl) (by kernel_rfl) (fun _ _ _ h => h) (Or.inl ⟨by rfl, ?hy⟩) hHeld ?_
                              case hy => (intro w hSw; (try dsimp only at hSw); go_simp; try with_reducible rfl)
                              simp only [Act.put, List.setIfInBounds_toArray, List.set_cons_zero, List.set_cons_succ]
                              refine wpAnyH_take (i := 15) (oi := ({ dst := some 146, op := .indexAddr 35 (.tmp 144) (.tmp 145), type := 0, pos := "ref.go:125", after := #[{ on := 13, ground := .data }, { on := 14, ground := .data }], guard := none } : Oper)) (v := ?_) rfl (by kernel_rfl) (by kernel_rfl) (by kernel_rfl) (fun _ _ _ h => h) (Or.inl ⟨by rfl, ?hy⟩) hHeld ?_
                              case hy => (intro w hSw; (try dsimp only at hSw); go_simp; try with_reducible rfl)
                              simp only [Act.put, List.setIfInBounds_toArray, List.set_cons_zero, List.set_cons_succ]
                              refine wpAnyH_take (i := 16) (oi := ({ dst := some 147, op := .load 49 (.tmp 146), type := 49, pos := "ref.go:125", after := #[{ on := 15, ground := .data }], guard := none } : Oper)) (v := ?_) rfl (by kernel_rfl) (by kernel_rfl) (by kernel_rfl) (fun _ _ _ h => h) (Or.inl ⟨by rfl, ?hy⟩) hHeld ?_
                              case hy => (intro w hSw; (try dsimp only at hSw); go_simp; try with_reducible rfl)
                              simp only [Act.put, List.setIfInBounds_toArray, List.set_cons_zero, List.set_cons_succ]
                              refine wpAnyH_take (i := 17) (oi := ({ dst := some 148, op := .move (.tmp 15), type := 3, pos := "ref.go:125", after := #[], guard := none } : Oper)) (v := ?_) rfl (by kernel_rfl) (by kernel_rfl) (by kernel_rfl) (fun _ _ _ h => h) (Or.inl ⟨by rfl, ?hy⟩) hHeld ?_
                              case hy => (intro w hSw; (try dsimp only at hSw); go_simp; try with_reducible rfl)
                              simp only [Act.put, List.setIfInBounds_toArray, List.set_cons_zero, List.set_cons_succ]
                              refine wpAnyH_take (i := 18) (oi := ({ dst := some 149, op := .indexAddr 49 (.tmp 147) (.tmp 148), type := 0, pos := "ref.go:125", after := #[{ on := 16, ground := .data }, { on := 17, ground := .data }], guard := none } : Oper)) (v := ?_) rfl (by kernel_rfl) (by kernel_rfl) (by kernel_rfl) (fun _ _ _ h => h) (Or.inl ⟨by rfl, ?hy⟩) hHeld ?_
                              case hy => (intro w hSw; (try dsimp only at hSw); go_simp; try with_reducible rfl)
                              simp only [Act.put, List.setIfInBounds_toArray, List.set_cons_zero, List.set_cons_succ]
                              refine wpAnyH_take (i := 19) (oi := ({ dst := some 150, op := .load 42 (.tmp 149), type := 42, pos := "ref.go:125", after := #[{ on := 18, ground := .data }], guard := none } : Oper)) (v := ?_) rfl (by kernel_rfl) (by kernel_rfl) (by kernel_rfl) (fun _ _ _ h => h) (Or.inl ⟨by rfl, ?hy⟩) hHeld ?_
                              case hy => (intro w hSw; (try dsimp only at hSw); go_simp; try with_reducible rfl)
                              simp only [Act.put, List.setIfInBounds_toArray, List.set_cons_zero, List.set_cons_succ]
                              refine wpAnyH_ready (rs := [11, 20]) (by kernel_rfl) (by simp) ?_
                              refine AllReadyH.cons (o := ({ dst := some 142, op := .load 42 (.tmp 141), type := 42, pos := "ref.go:125", after := #[{ on := 10, ground := .data }], guard := none } : Oper)) rfl (fun K hK => ?_) (AllReadyH.cons (o := ({ dst := some 151, op := .call { callee := .value (.func 33), args := #[.tmp 143, .tmp 150], argTypes := #[42, 42] }, type := 42, pos := "ref.go:125", after := #[{ on := 12, ground := .data }, { on := 19, ground := .data }], guard := none } : Oper)) rfl (fun K hK => ?_) AllReadyH.nil)
                              focus
                                go_simp
                                refine hK.out _ _ hHeld (fun hHeld => ?_)
                                clear hK K
                                try simp only [Act.put, List.setIfInBounds_toArray, List.set_cons_zero, List.set_cons_succ]
                                refine wpAnyH_ready (rs := [20]) (by kernel_rfl) (by simp) ?_
                                refine AllReadyH.cons (o := ({ dst := some 151, op := .call { callee := .value (.func 33), args := #[.tmp 143, .tmp 150], argTypes := #[42, 42] }, type := 42, pos := "ref.go:125", after := #[{ on := 12, ground := .data }, { on := 19, ground := .data }], guard := none } : Oper)) rfl (fun K hK => ?_) AllReadyH.nil
                                go_simp
                                (go_at_call 33; refine Calls.mono hmu ?_; rintro e W7 ⟨v7, rfl, hb7, hr7⟩; obtain rfl : v7 = .string ⟨(rt (H i c * H s.lead.length t)).toArray⟩ := (by cases hr7; rfl); clear hr7; have hK8 := hKd.out.below hb7; have e1 := hK8.mat.topCell (i := i) hin; have e2 := hK8.mat.topCell (i := s.lead.length) hlk; have e3 := (hb7.cell (p := ⟨B' s.lead.length, t, none⟩) (hKd.out.mat.rowLt hlk).2).trans crk; have e4 := (hb7.cell (p := ⟨B' i, t, none⟩) (hKd.out.mat.rowLt hin).2).trans cri; clear hb7)
                                try (go_wp2_with fail)
                                refine hK.out _ _ ⟨e1, e2, e3⟩ (fun hHeld => ?_)
                                clear hK K
                                try simp only [Act.put, List.setIfInBounds_toArray, List.set_cons_zero, List.set_cons_succ]
                              rotate_left
                              focus
                                go_simp
                                (go_at_call 33; refine Calls.mono hmu ?_; rintro e W7 ⟨v7, rfl, hb7, hr7⟩; obtain rfl : v7 = .string ⟨(rt (H i c * H s.lead.length t)).toArray⟩ := (by cases hr7; rfl); clear hr7; have hK8 := hKd.out.below hb7; have e1 := hK8.mat.topCell (i := i) hin; have e2 := hK8.mat.topCell (i := s.lead.length) hlk; have e3 := (hb7.cell (p := ⟨B' s.lead.length, t, none⟩) (hKd.out.mat.rowLt hlk).2).trans crk; have e4 := (hb7.cell (p := ⟨B' i, t, none⟩) (hKd.out.mat.rowLt hin).2).trans cri; clear hb7)
                                try (go_wp2_with fail)
                                refine hK.out _ _ ⟨e1, e2, e3⟩ (fun hHeld => ?_)
                                clear hK K
                                try simp only [Act.put, List.setIfInBounds_toArray, List.set_cons_zero, List.set_cons_succ]
                                refine wpAnyH_ready (rs := [11]) (by kernel_rfl) (by simp) ?_
                                refine AllReadyH.cons (o := ({ dst := some 142, op := .load 42 (.tmp 141), type := 42, pos := "ref.go:125", after := #[{ on := 10, ground := .data }], guard := none } : Oper)) rfl (fun K hK => ?_) AllReadyH.nil
                                go_simp
                                refine hK.out _ _ hHeld (fun hHeld => ?_)
                                clear hK K
                                try simp only [Act.put, List.setIfInBounds_toArray, List.set_cons_zero, List.set_cons_succ]
                              all_goals
                                refine wpAnyH_ready (rs := [21]) (by kernel_rfl) (by simp) ?_
                                refine AllReadyH.cons (o := ({ dst := some 152, op := .call { callee := .value (.func 50), args := #[.tmp 142, .tmp 151], argTypes := #[42, 42] }, type := 42, pos := "ref.go:125", after := #[{ on := 11, ground := .data }, { on := 20, ground := .data }, { on := 20, ground := .chain }], guard := none } : Oper)) rfl (fun K hK => ?_) AllReadyH.nil
                                go_simp
                                (go_at_call 50; refine Calls.mono (hsu _ hK8.bel) ?_; rintro e W9 ⟨v9, rfl, hb9, hr9⟩; obtain rfl : v9 = .string ⟨(rt (H i t - H i c * H s.lead.length t)).toArray⟩ := (by cases hr9; rfl); clear hr9; have hK9 := hK8.below hb9; have d1 := hK9.mat.topCell (i := i) hin; have d2 := hK9.mat.topCell (i := s.lead.length) hlk; have d3 := (hb9.cell (p := ⟨B' s.lead.length, t, none⟩) (hK8.mat.rowLt hlk).2).trans e3; have d4 := (hb9.cell (p := ⟨B' i, t, none⟩) (hK8.mat.rowLt hin).2).trans e4; have d5 := hK9.mat.rowFrozen (i := i) hin t; clear hb9)
                                try (go_wp2_with fail)
                                refine hK.out _ _ ⟨d1, d2, d3⟩ (fun hHeld => ?_)
                                clear hK K
                                try simp only [Act.put, List.setIfInBounds_toArray, List.set_cons_zero, List.set_cons_succ]
                                refine wpAnyH_take (i := 22) (oi := ({ dst := some 153, op := .indexAddr 49 (.tmp 134) (.tmp 135), type := 0, pos := "ref.go:125", after := #[{ on := 3, ground := .data }, { on := 4, ground := .data }, { on := 0, ground := .phase }, { on := 1, ground := .phase }, { on := 2, ground := .phase }, { on := 3, ground := .phase }, { on := 4, ground := .phase }, { on := 5, ground := .phase }, { on := 6, ground := .phase }, { on := 7, ground := .phase }, { on := 8, ground := .phase }, { on := 9, ground := .phase }, { on := 10, ground := .phase }, { on := 11, ground := .phase }, { on := 12, ground := .phase }, { on := 13, ground := .phase }, { on := 14, ground := .phase }, { on := 15, ground := .phase }, { on := 16, ground := .phase }, { on := 17, ground := .phase }, { on := 18, ground := .phase }, { on := 19, ground := .phase }, { on := 20, ground := .phase }, { on := 21, ground := .phase }], guard := none } : Oper)) (v := ?_) rfl (by kernel_rfl) (by kernel_rfl) (by kernel_rfl) (fun _ _ _ h => h) (Or.inl ⟨by rfl, ?hy⟩) hHeld ?_
                                case hy => (intro w hSw; (try dsimp only at hSw); go_simp; try with_reducible rfl)
                                simp only [Act.put, List.setIfInBounds_toArray, List.set_cons_zero, List.set_cons_succ]
                                have hK10 : Hid (OwnL W (W9.setCell ⟨B' i, t, none⟩ (.string ⟨(rt (H i t - H i c * H s.lead.length t)).toArray⟩)) 49 42 3 g cap n m B' C' (fun a b => .string ⟨(rt (clrU H s.lead.length c i (t + 1) a b)).toArray⟩) (.slice ad s.lead.length cp) s.lead.length (s.lead.map fun x : Nat => .int .i64 x)) := (hK9.setRow (by decide) hin t _).congr fun a _ b _ => by
                                  unfold clrU
                                  by_cases e1 : a = i
                                  · by_cases e2 : b = t
                                    · rw [if_pos ⟨e1, e2⟩, if_pos ⟨e1, by omega⟩, e2]
                                    · rw [if_neg (fun h => e2 h.2)]
                                      by_cases e3 : b < t
                                      · rw [if_pos ⟨e1, e3⟩, if_pos ⟨e1, by omega⟩]
                                      · rw [if_neg (fun h => e3 h.2), if_neg (fun h => by have := h.2; omega)]
                                  · rw [if_neg (fun h => e1 h.1), if_neg (fun h => e1 h.1), if_neg (fun h => e1 h.1)]
                                refine wpAnyH_ready (rs := [23]) (by kernel_rfl) (by simp) ?_
                                refine AllReadyH.cons (o := ({ dst := none, op := .store 42 (.tmp 153) (.tmp 152), type := 0, pos := "ref.go:125", after := #[{ on := 22, ground := .data }, { on := 21, ground := .data }, { on := 21, ground := .chain }, { on := 0, ground := .phase }, { on := 1, ground := .phase }, { on := 2, ground := .phase }, { on := 3, ground := .phase }, { on := 4, ground := .phase }, { on := 5, ground := .phase }, { on := 6, ground := .phase }, { on := 7, ground := .phase }, { on := 8, ground := .phase }, { on := 9, ground := .phase }, { on := 10, ground := .phase }, { on := 11, ground := .phase }, { on := 12, ground := .phase }, { on := 13, ground := .phase }, { on := 14, ground := .phase }, { on := 15, ground := .phase }, { on := 16, ground := .phase }, { on := 17, ground := .phase }, { on := 18, ground := .phase }, { on := 19, ground := .phase }, { on := 20, ground := .phase }, { on := 21, ground := .phase }], guard := none } : Oper)) rfl (fun K hK => ?_) AllReadyH.nil
                                go_simp
                                have f1 := hK10.out.mat.topCell (i := i) hin
                                have f2 := hK10.out.mat.topCell (i := s.lead.length) hlk
                                have f3 := hK10.out.mat.rowCell (i := s.lead.length) (j := t) hlk htm
                                rw [show clrU H s.lead.length c i (t + 1) s.lead.length t = H s.lead.length t by unfold clrU clrT; rw [if_neg (fun h => HID.out h.1.symm), if_pos (.inl rfl)]] at f3
                                refine hK.out _ _ ⟨f1, f2, f3⟩ (fun hHeld => ?_)
                                clear hK K f1 f2 f3 hHeld
                                try simp only [Act.put, List.setIfInBounds_toArray, List.set_cons_zero, List.set_cons_succ]
                                refine wpAnyH_done (by kernel_rfl) ?_ _
                                clear hK9 d1 d2 d3 d4 d5 e1 e2 e3 e4 hK8 n1 n2 hmu hsu fri cri crk ci ck hKd
                                go_wp2_with fail
                                go_roundg (m - (t + 1))
                                case measure => omega
                                case rel => exact ⟨t + 1, by go_num, by omega, by omega, hK10.out⟩
                            · have htz : ¬(t : Int) < (m : Int) := by omega
                              obtain rfl : m = t := by omega
                              go_wp2_with fail
                              go_roundg (n - (i + 1))
                              case measure => omega
                              case rel =>
                                refine ⟨i + 1, by go_num, by omega, by omega, hK.congr fun a ha b hb => ?_⟩
                                unfold clrU
                                by_cases e1 : a = i
                                · have := HID.out
                                  rw [if_pos ⟨e1, hb⟩]
                                  unfold clrT
                                  rw [if_neg (by omega), e1]
                                · rw [if_neg (fun h => e1 h.1)]
                                  unfold clrT
                                  by_cases e2 : a = s.lead.length ∨ i ≤ a
                                  · rw [if_pos e2, if_pos (by omega)]
                                  · rw [if_neg e2, if_neg (by omega)]
                    · have hiz : ¬(i : Int) < (n : Int) := by omega
                      obtain rfl : n = i := by omega
                      have hK12 : Hid (OwnL W wr 49 42 3 g cap n m B' C' (fun a b => .string ⟨(rt (clrM H s.lead.length c a b)).toArray⟩) (.slice ad s.lead.length cp) s.lead.length (s.lead.map fun x : Nat => .int .i64 x)) := hK.congr fun a ha b hb => by
                        unfold clrT clrM
                        by_cases e1 : a = s.lead.length
                        · rw [if_pos (.inl e1), if_pos e1, e1]
                        · rw [if_neg (by omega), if_neg e1]
                      clear hK
                      have hld := hK12.out.ld
                      have hbl := hK12.out.bel.size
                      go_wp2_with (first
                        | (at_builtin; refine wpList_append_own _ rfl _ _ 30 rfl W.heap.size 3 ii (.int .i64 0) 1 8 Tryz.underlying30 hii hiir.1 hiir.2.1 hiir.2.2 rfl (by decide) _ s.lead.length _ rfl (hld.alloc _) ⟨wr.heap.size, 0, none⟩ 1 1 [.int .i64 c] rfl rfl (World.news_of_block (heap_alloc_new wr _)) (by simp [Value.oneCell']) (by unfold maxLen; omega) (by omega) (by simp; omega) ?_; intro v5 w5 ho5 hg5 hn5; obtain ⟨b5, c5, rfl, hb51, hb52⟩ := ho5.form (by omega)))
                      obtain ⟨hM5, hB5⟩ := hK12.out.grown (by decide) (by decide) hg5
                      have hl5 : w5.ownsRow W.heap.size 3 1 (.slice (some ⟨b5, 0, none⟩) (s.lead.length + 1) c5) (s.lead ++ [c]).length ((s.lead ++ [c]).map fun x : Nat => .int .i64 x) := by rw [List.map_append, List.length_append]; exact ho5
                      clear ho5 hg5 hn5 hK12 hld
                      have hM6 : OwnM w5 W.heap.size 49 42 g cap n m B' C' (fun i j => .string ⟨(rt ((redM n F (c + 1)).F i j)).toArray⟩) := by rw [HT2.out.1]; exact hM5
                      have hl6 : w5.ownsRow W.heap.size 3 1 (.slice (some ⟨b5, 0, none⟩) (s.lead.length + 1) c5) (redM n F (c + 1)).lead.length ((redM n F (c + 1)).lead.map fun x : Nat => .int .i64 x) := by rw [HT2.out.2]; exact hl5
                      have hf6 : Value.string ⟨(rt (q * G s.lead.length c)).toArray⟩ = .string ⟨(rt (facG (redM n F (c + 1)))).toArray⟩ := by rw [← HFq.out.1]
                      clear hM5 hl5
                      go_roundg (m - (c + 1))
                      case measure => omega
                      case rel => exact ⟨c + 1, B', C', by go_num, by omega, by omega, ⟨hM6, hl6, hB5⟩, hf6⟩
        · have hpz : ¬(p : Int) < (n : Int) := by omega
          have hpge : (n : Int) ≤ (p : Int) := by omega
          have hlook : lookM s.F c (n - s.lead.length) s.lead.length = p := by
            have h := HLk.out
            rw [show n - p = 0 by omega] at h
            exact h
          have hnf : ¬lookM s.F c (n - s.lead.length) s.lead.length < n := by omega
          have hst := stp_not (s := s) (c := c) hnf
          have hfg := facG_not (n := n) (s := s) (c := c) hnf
          rw [← HN.out] at hst hfg
          have HT : Hid (redM n F (c + 1) = { s with gap := true }) := hst
          have HF0 : Hid (facG (redM n F (c + 1)) = 0) := hfg
          clear hst hfg hnf hlook
          go_wp2
          go_roundg (m - (c + 1))
          case measure => omega
          case rel => exact ⟨c + 1, B, C, by go_num, by omega, by omega, by rw [HT.out]; exact HK2.out, by rw [HF0.out, rt_zero.2 rfl]⟩
    · have hcz : ¬(c : Int) < (m : Int) := by omega
      obtain rfl : m = c := by omega
      have vsl : ∃ ad cp, u6 = .slice ad (redM n F m).lead.length cp := by
        rcases hK.ld.2 with ⟨h1, h2⟩ | ⟨g, cap, cur, h1, _⟩
        · exact ⟨none, 0, by rw [h1, h2]⟩
        · exact ⟨_, _, h1⟩
      obtain ⟨ad, cp, rfl⟩ := vsl
      have hl0 : (0 : Int) ≤ ((redM n F m).lead.length : Int) := Int.natCast_nonneg _
      have hl1 : ((redM n F m).lead.length : Int) ≤ (n : Int) := by omega
      have hl2 : ((redM n F m).lead.length : Int) ≤ (cap : Int) := by omega
      have hlN : (redM n F m).lead.length ≤ n := hlen
      have hL1 : ∀ i, i < n → ∀ j, j < m → (rt ((redM n F m).F i j)).length ≤ maxLen := fun i hi j hj => by
        have := rt_len ((redM n F m).F i j); have := hb1 i hi j hj; unfold maxLen; omega
      have hL2 : (rt (facG (redM n F m))).length ≤ maxLen := by have := rt_len (facG (redM n F m)); have := HF9.out; unfold maxLen; omega
      have HX : Hid ((∀ i, i < n → ∀ j, j < m → (rt ((redM n F m).F i j)).length ≤ maxLen) ∧ (rt (facG (redM n F m))).length ≤ maxLen) := ⟨hL1, hL2⟩
      clear hL1 hL2 hb1 hb2 hgd HB HN HS HG HF9
      go_wp2_with (go_at_call 16; refine Calls.mono hcol ?_; rintro e W2 ⟨v2, rfl, hbc, hr2⟩; obtain rfl : v2 = .int .i64 m := (by cases hr2; rfl); clear hr2 hcol; have hK2 := hK.below hbc; clear hbc)
      go_ret3
      exact ⟨_, rfl, hK2.bel, res_redX hK2.mat hlN hK2.ld HX.out.1 HX.out.2⟩
end Go.Proofs

/-
  MATRIX: the reference's Reduced without rows or without columns. Own work.
-/
namespace Go.Proofs
open Go Go.Pi Go.RowKit Go.Shelf Go.Ar Go.Mx

set_option maxRecDepth 100000 in
set_option maxHeartbeats 8000000 in
theorem Tryz.xcopy0 (n m : Nat) (F : Mtx) (hn2 : n ≤ 12) (h0 : n = 0 ∨ m = 0) (S : Nat → Nat → Prop) (W : World) (vm : Value) (hS : ∀ b j, S b j → b < W.heap.size) (hrm : Rep S W (matD n m F) vm) :
    Calls Tryz.prog 47 #[vm] W fun e W' => ∃ (a : Option Addr) (cap : Nat), e = .returned (.slice a n cap) ∧ n ≤ cap ∧ cap ≤ maxLen ∧ Below W.heap.size W W' := by
  have mixed : Tryz.prog.follows .mixedOrders = true := by kernel_rfl
  have t0 := Tryz.underlying35; have a0 := Tryz.isAgg35; have z0 := Tryz.sizeOf35; have v0 := Tryz.zeroValue35; have u0 := run_underlying Tryz.underlying35
  have t1 := Tryz.underlying49; have a1 := Tryz.isAgg49; have z1 := Tryz.sizeOf49; have v1 := Tryz.zeroValue49; have u1 := run_underlying Tryz.underlying49
  have t2 := Tryz.underlying42; have a2 := Tryz.isAgg42; have z2 := Tryz.sizeOf42; have v2 := Tryz.zeroValue42; have u2 := run_underlying Tryz.underlying42
  have t3 := Tryz.underlying4; have a3 := Tryz.isAgg4; have z3 := Tryz.sizeOf4; have v3 := Tryz.zeroValue4; have u3 := run_underlying Tryz.underlying4
  have t4 := Tryz.underlying3; have a4 := Tryz.isAgg3; have z4 := Tryz.sizeOf3; have v4 := Tryz.zeroValue3; have u4 := run_underlying Tryz.underlying3
  have t5 := Tryz.underlying30; have a5 := Tryz.isAgg30; have z5 := Tryz.sizeOf30; have v5 := Tryz.zeroValue30; have u5 := run_underlying Tryz.underlying30
  have infoRow : (Tryz.prog.info? 49).map (fun i => (i.zero, i.size, i.bytes)) = some (some (.slice none 0 0), 1, 24) := by kernel_rfl
  obtain ⟨ir, hir, hirr⟩ := Option.map_eq_some_iff.1 infoRow
  simp only [Prod.mk.injEq] at hirr
  by_cases hn : n = 0
  · subst hn
    obtain ⟨a, cap, rfl⟩ : ∃ a cap, vm = .slice a 0 cap := by
      generalize hd : rowsD 0 m F = ds at hrm
      cases hrm <;> exact ⟨_, _, rfl⟩
    go_enter Tryz.func47, Tryz.ntmps47
    go_wp2
    go_loopg [4, 3] 0 (fun gg s4 s3 wr => s4 = .int .i64 0 ∧ s3 = .slice none 0 0 ∧ wr = W)
    case atStart => exact ⟨rfl, rfl, rfl⟩
    case round =>
      obtain ⟨rfl, rfl, rfl⟩ := hrel
      go_wp2
      go_ret
      exact ⟨none, 0, rfl, Nat.le_refl _, Nat.zero_le _, Below.refl _ _⟩
  · obtain rfl : m = 0 := h0.resolve_left hn
    obtain ⟨b0, o0, cap0, rv, rfl, hcm0, hrl, hrow⟩ : ∃ b0 o0 cap0, ∃ rv : Nat → Value, vm = .slice (some ⟨b0, o0, none⟩) n cap0 ∧ cap0 ≤ maxLen ∧ b0 < W.heap.size ∧ ∀ k, k < n → W.cell? ⟨b0, o0 + k, none⟩ = some (rv k) ∧ Rep S W (rowD 0 (F k)) (rv k) := by
      generalize hd : rowsD n 0 F = ds at hrm
      cases hrm with
      | sl0 => omega
      | sl _ _ b off cap vs hl h1 hnn hc hr h =>
        subst hd
        rw [rowsD_len] at hl
        have hv : ∀ k, k < n → vs[k]? = some (vs.getD k default) := fun k hk => by rw [List.getD_eq_getElem?_getD, List.getElem?_eq_getElem (by omega)]; rfl
        exact ⟨b, off, cap, fun k => vs.getD k default, rfl, hc, hS b _ (hr 0 _ (hv 0 (by omega))).1, fun k hk => ⟨(hr k _ (hv k hk)).2, h k _ _ (lst_at _ hk) (hv k hk)⟩⟩
    clear hrm
    go_enter Tryz.func47, Tryz.ntmps47
    go_wp2
    go_loopg [4, 3] n (fun gg s4 s3 wr => ∃ (k : Nat) (V : Nat → Value), s4 = .int .i64 k ∧ k ≤ n ∧ n ≤ gg + k ∧ wr.ownsRow W.heap.size 49 1 s3 k (lst k V) ∧ Below W.heap.size W wr)
    case atStart => exact ⟨0, fun _ => .slice none 0 0, rfl, by omega, by omega, World.ownsRow_nil _ _ _ _, Below.refl _ _⟩
    case round =>
      obtain ⟨k, V, rfl, hk, hgk, q1, hbw⟩ := hrel
      by_cases hlt : k < n
      · have ck := (hbw.cell (p := ⟨b0, o0 + k, none⟩) hrl).trans (hrow k hlt).1
        have hr2 := (hrow k hlt).2
        obtain ⟨ak, cpk, hvk⟩ : ∃ a c, rv k = .slice a 0 c := by
          generalize rv k = v at hr2
          generalize hd : strs 0 (F k) = ds at hr2
          cases hr2 <;> exact ⟨_, _, rfl⟩
        rw [hvk] at ck
        have hkz : (k : Int) < (n : Int) := by omega
        have hk0 : (0 : Int) ≤ (k : Int) := Int.natCast_nonneg _
        have ck : (wr.alloc (.cells #[] 42)).cell? ⟨b0, o0 + k, none⟩ = some (.slice ak 0 cpk) := (World.cell?_alloc_some _ _ _ (by rw [ck]; rfl)).trans ck
        have hbs := hbw.size
        clear hr2 hvk
        have s1 : (wr.alloc (.cells #[] 42)).heap.size = wr.heap.size + 1 := by simp
        have h3 := heap_alloc_new (wr.alloc (.cells #[] 42)) (.cells #[.slice (some ⟨wr.heap.size, 0, none⟩) 0 0] 49)
        rw [s1] at h3
        have q2 := (q1.alloc (.cells #[] 42)).alloc (.cells #[.slice (some ⟨wr.heap.size, 0, none⟩) 0 0] 49)
        cases ak
        all_goals
          go_wp2_with (first
            | (at_builtin; refine wpList_append_own _ rfl _ _ 35 rfl W.heap.size 49 ir (.slice none 0 0) 1 24 Tryz.underlying35 hir hirr.1 hirr.2.1 hirr.2.2 rfl (by decide) _ k _ rfl q2 ⟨wr.heap.size + 1, 0, none⟩ 1 1 [.slice (some ⟨wr.heap.size, 0, none⟩) 0 0] rfl rfl (World.news_of_block h3) (by simp [Value.oneCell']) (by unfold maxLen; omega) (by omega) (by simp; omega) ?_; intro v5 w5 ho5 hg5 hn5))
          have hbl : Below W.heap.size W w5 := ((hbw.alloc (by omega) _).alloc (by rw [s1]; omega) _).grown hg5 (by simp; omega) (fun k hk => (q1.lt k hk).1)
          have e5 : lst k V ++ [.slice (some ⟨wr.heap.size, 0, none⟩) 0 0] = lst (k + 1) (fun i => if i = k then .slice (some ⟨wr.heap.size, 0, none⟩) 0 0 else V i) := by
            rw [lst_succ, if_pos rfl]
            rw [lst_congr (g := V) (fun i hi => if_neg (by omega))]
          rw [e5] at ho5
          go_roundg (n - (k + 1))
          case measure => omega
          case rel => exact ⟨k + 1, _, by go_num, by omega, by omega, ho5, hbl⟩
      · have hkz : ¬(k : Int) < (n : Int) := by omega
        obtain rfl : n = k := by omega
        obtain ⟨b, cap, e, hnc, hcm⟩ : ∃ b cap, u3 = .slice (some ⟨b, 0, none⟩) n cap ∧ n ≤ cap ∧ cap ≤ maxLen := by
          rcases q1.2 with ⟨_, h⟩ | ⟨b, cap, cur, e, hbg, hg, hnc, hcm, _, _⟩
          · omega
          · exact ⟨b, cap, e, hnc, hcm⟩
        subst e
        clear q1 hrow hrl hcm0
        go_wp2
        go_ret
        exact ⟨_, cap, rfl, hnc, hcm, hbw⟩
set_option maxRecDepth 100000 in
set_option maxHeartbeats 8000000 in
theorem Tryz.xreduced0 (n m : Nat) (F : Mtx) (hn2 : n ≤ 12) (h0 : n = 0 ∨ m = 0) (h1 : n = 0 → m = 0) :
    Con Tryz.prog Tryz.L 19 [matD n m F] (.tup [.sl 0 [], .sl 0 [], .str [49]]) := by
  have mixed : Tryz.prog.follows .mixedOrders = true := by kernel_rfl
  have t0 := Tryz.underlying35; have a0 := Tryz.isAgg35; have z0 := Tryz.sizeOf35; have v0 := Tryz.zeroValue35; have u0 := run_underlying Tryz.underlying35
  have t1 := Tryz.underlying49; have a1 := Tryz.isAgg49; have z1 := Tryz.sizeOf49; have v1 := Tryz.zeroValue49; have u1 := run_underlying Tryz.underlying49
  have t2 := Tryz.underlying42; have a2 := Tryz.isAgg42; have z2 := Tryz.sizeOf42; have v2 := Tryz.zeroValue42; have u2 := run_underlying Tryz.underlying42
  have t3 := Tryz.underlying4; have a3 := Tryz.isAgg4; have z3 := Tryz.sizeOf4; have v3 := Tryz.zeroValue4; have u3 := run_underlying Tryz.underlying4
  have t4 := Tryz.underlying3; have a4 := Tryz.isAgg3; have z4 := Tryz.sizeOf3; have v4 := Tryz.zeroValue3; have u4 := run_underlying Tryz.underlying3
  have t5 := Tryz.underlying30; have a5 := Tryz.isAgg30; have z5 := Tryz.sizeOf30; have v5 := Tryz.zeroValue30; have u5 := run_underlying Tryz.underlying30
  have t5 := Tryz.underlying30; have a5 := Tryz.isAgg30; have z5 := Tryz.sizeOf30; have v5 := Tryz.zeroValue30; have u5 := run_underlying Tryz.underlying30
  obtain rfl : m = 0 := by rcases h0 with h | h; exact h1 h; exact h
  refine ⟨⟨by kernel_rfl, rfl⟩, fun S W vs hS hL hrep => ?_⟩
  obtain ⟨vm, r1, rfl, hrm, t1'⟩ := hrep.uncons
  obtain rfl : r1 = [] := List.length_eq_zero_iff.1 t1'.1.symm
  clear t1' hrep
  obtain ⟨am, cm, rfl⟩ : ∃ a cap, vm = .slice a n cap := by
    generalize hd : rowsD n 0 F = ds at hrm
    cases hrm <;> exact ⟨_, _, rfl⟩
  have hcp := Tryz.xcopy0 n 0 F hn2 (.inr rfl) S W _ hS hrm
  have hco := fun (W1 : World) (hb1 : Below W.heap.size W W1) => (Tryz.xcolumns n 0 F (by omega) (fun _ => rfl)).2 S W1 [.slice am n cm] (fun b j h => Nat.lt_of_lt_of_le (hS b j h) hb1.size) (Tryz.hL W W1 hL hb1) (Reps.cons (hrm.mono (fun _ _ z => z) (fun b o z => hb1.cell (p := ⟨b, o, none⟩) (hS b o z))) .nil)
  clear hrm
  show Calls _ _ #[.slice am n cm] _ _
  go_enter Tryz.func19, Tryz.ntmps19
  go_wp2_with (go_at_call 47; refine Calls.mono hcp ?_; rintro e W1 ⟨ad, cap, rfl, hnc, hcm, hb1⟩)
  have hcapz : (n : Int) ≤ (cap : Int) := by omega
  have hcap0 : (0 : Int) ≤ (cap : Int) := by omega
  have hcol := hco W1 hb1
  clear hcp hco
  go_loopg [8, 6, 7] 0 (fun gg s8 s6 s7 wr => s8 = .int .i64 0 ∧ s6 = .slice none 0 0 ∧ s7 = .string ⟨#[49]⟩ ∧ wr = W1)
  case atStart => exact ⟨rfl, rfl, rfl, rfl⟩
  case round =>
    obtain ⟨rfl, rfl, rfl, rfl⟩ := hrel
    go_wp2_with (go_at_call 16; refine Calls.mono hcol ?_; rintro e W2 ⟨v2, rfl, hbc, hr2⟩; obtain rfl : v2 = .int .i64 0 := (by cases hr2; rfl); clear hr2 hcol)
    go_ret3
    refine ⟨_, rfl, hb1.trans (hbc.mono hb1.size), .tup _ [_, _, _] rfl ?_⟩
    intro i d u hd hu
    match i with
    | 0 => cases hd; cases hu; exact .sl0 ad cap hcm
    | 1 => cases hd; cases hu; exact .sl0 none 0 (Nat.zero_le _)
    | 2 => cases hd; cases hu; exact .str [49] (by decide)
    | k + 3 => simp at hd
end Go.Proofs

/-
  MATRIX: MatrixProducts. Own work.
-/
namespace Go.Proofs
open Go Go.Pi Go.RowKit Go.Shelf Go.Ar Go.Mx

theorem gl19 {g : Grd} {t : Nat} {N : EP} {E : Env} : ldC true 19 g.D t N E = N (st1 E t (.agg g.D)) := by
  have h1 := g19 g
  have h2 := gone g
  have h3 : g.D.take 19 = g.D := by rw [← h1, List.take_length]
  simp [ldC, ofCells, h1, h3]
theorem Tryz.xunits (n : Nat) (hn : n ≤ 1000) : Con Tryz.prog Tryz.L 20 [matD n n oneM, .int .i64 n] (.bool true) := by
  refine rule20 Tryz.hL rfl rfl rfl ?_
  (simp only [pc20, rs20, oU, oC]; refine ev ?_; try with_reducible exact trivial)
  refine loopF_of (fun E => ∃ k : Nat, k ≤ n ∧ E = [(0, matD n n oneM), (1, .int .i64 n), (5, .int .i64 k)])
    (fun E => match lk E 5 with | .int _ i => n - i.toNat | _ => 0) ⟨0, Nat.zero_le _, rfl⟩ ?_
  rintro _ ⟨k, hk, rfl⟩
  simp only [evX, evY, evZ, forall_const, implies_true, initE, stepF, D.clean, mvF, moF, tkF, shF, ariF, ciF, catF, scF, ebF, eqF, eqOk, eqPr, enF, notF, ngF, cvF, csF, csbF, lenF, lenSF, ixF, iaF, PX.slot, iaAF, faF, ldF, D.mem, stF, bxF, mkSF, boundF, fldF, ixAF, mmF2, D.plain, D.isPure, optAll, D.dull, callVF, splice, D.cells, D.one, sets, resT, D.flat, D.flat0, D.simple, Nat.reduceBNe, Nat.reduceLT, reduceIte, Nat.reduceEqDiff, Nat.reduceAdd, Nat.reduceMul, Nat.reduceSub, Nat.reduceLeDiff, Int.reduceToNat, Int.reduceLT, Int.reduceLE, Int.reduceEq, Int.reduceNeg, Int.reduceSub, Int.reduceAdd, Int.reduceMul, stG_own, ldC_rowsD]
  intro h3
  refine ⟨⟨by omega, by omega, by rw [rowsD_len]; omega⟩, by omega, ?_⟩
  refine loopF_of (fun E => ∃ j : Nat, j ≤ n ∧ E = [(0, matD n n oneM), (1, .int .i64 n), (5, .int .i64 k), (6, .int .i64 j)])
    (fun E => match lk E 6 with | .int _ i => n - i.toNat | _ => 0) ⟨0, Nat.zero_le _, rfl⟩ ?_
  rintro _ ⟨j, hj, rfl⟩
  simp only [evX, evY, evZ, forall_const, implies_true, initE, stepF, D.clean, mvF, moF, tkF, shF, ariF, ciF, catF, scF, ebF, eqF, eqOk, eqPr, enF, notF, ngF, cvF, csF, csbF, lenF, lenSF, ixF, iaF, PX.slot, iaAF, faF, ldF, D.mem, stF, bxF, mkSF, boundF, fldF, ixAF, mmF2, D.plain, D.isPure, optAll, D.dull, callVF, splice, D.cells, D.one, sets, resT, D.flat, D.flat0, D.simple, Nat.reduceBNe, Nat.reduceLT, reduceIte, Nat.reduceEqDiff, Nat.reduceAdd, Nat.reduceMul, Nat.reduceSub, Nat.reduceLeDiff, Int.reduceToNat, Int.reduceLT, Int.reduceLE, Int.reduceEq, Int.reduceNeg, Int.reduceSub, Int.reduceAdd, Int.reduceMul, stG_own, ldC_rowsD, ldC_strsM]
  have e1 : k = j → rt (oneM k j) = [49] := fun e => by rw [show oneM k j = 1 from if_pos e]; exact rt_one.2 rfl
  have e2 : k ≠ j → rt (oneM k j) = [48] := fun e => by rw [show oneM k j = 0 from if_neg e]; exact rt_zero.2 rfl
  have l1 := rowsD_len n n oneM
  have l2 := strs_len n (oneM k)
  refine ⟨fun h4 => ⟨fun h5 => ?_, fun h5 => ?_⟩, fun h4 => ⟨by omega, ⟨k + 1, by omega, by simp⟩, by omega⟩⟩
  · have e := e1 (by omega)
    refine ⟨⟨by omega, by omega, by omega⟩, by omega, ⟨by omega, by omega, by omega⟩, by omega, fun _ => ⟨fun h => absurd h5 h, fun _ => ⟨by omega, ⟨j + 1, by omega, by simp⟩, by omega⟩⟩, fun h => absurd e h⟩
  · have e := e2 (by omega)
    refine ⟨fun _ => ⟨⟨by omega, by omega, by omega⟩, by omega, ⟨by omega, by omega, by omega⟩, by omega, fun h => absurd e h, fun _ => ⟨by omega, ⟨j + 1, by omega, by simp⟩, by omega⟩⟩, fun h => absurd h5 h⟩
theorem Grd.nb (g : Grd) : ∀ i, i < g.n → ∀ j, j < g.m → NB 2 2 (g.F i j) := fun i hi j hj => (g.rb i hi).nb hj
end Go.Proofs

/-
  MATRIX: texts of numbers; MatrixApplies. Own work.
-/
namespace Go.Proofs
open Go Go.Pi Go.RowKit Go.Shelf Go.Ar Go.Mx

end Go.Proofs

/-
  MATRIX: MatrixDeterminants. Own work.
-/
namespace Go.Proofs
open Go Go.Pi Go.RowKit Go.Shelf Go.Ar Go.Mx

theorem Grd.half (g : Grd) (i j : Nat) : ∃ u : Int, u.natAbs ≤ 38 ∧ g.F i j * 2 = (u : Rat) := by
  have h := tmod20 (g.e (4 * i + j))
  unfold Grd.F Grd.d
  generalize (g.e (4 * i + j)).tmod 20 = z at *
  cases g.h
  · refine ⟨2 * z, by omega, ?_⟩
    show mkRat z 1 * 2 = _
    rw [mkRat_d1, Rat.intCast_mul]
    grind
  · refine ⟨z, by omega, ?_⟩
    show mkRat z 2 * 2 = _
    rw [Rat.mkRat_eq_div]
    grind
/-- the determinant's contract at sizes -/
theorem Tryz.mdetK {k n : Nat} {F : Mtx} (hn : n ≤ 4) (h : RBs k n n F) (hk : (k + 1) * 2 ^ n ≤ 190) : Con Tryz.prog Tryz.L 18 [matD n n F] (.tup [.str (rt (detM n F)), .int .i64 0]) ∧ rd (detM n F) ≤ 200 := by
  have hp : 1 ≤ 2 ^ n := Nat.one_le_two_pow
  have hk2 : (k + 1) * 1 ≤ (k + 1) * 2 ^ n := Nat.mul_le_mul_left _ hp
  have hf := rd_nb (nb_fac h (w := n) (Nat.le_refl _))
  rw [Nat.max_self] at hf
  refine ⟨Tryz.mdet n F (by omega) (rts_of h (by omega)) (bnd_of h (Nat.le_refl _) (by omega)) (by omega), ?_⟩
  unfold detM
  split
  · decide +kernel
  · omega
/-- a description made square -/
def Grd.sq (g : Grd) : Grd := { g with c := g.r % 5 }
def Grd.sqAs (h : Grd) (g : Grd) : Grd := { h with r := g.r % 5, c := g.r % 5 }
end Go.Proofs

/-
  MATRIX: MatrixKernels. Own work.
-/
namespace Go.Proofs
open Go Go.Pi Go.RowKit Go.Shelf Go.Ar Go.Mx

/-- sums of products under way -/
theorem szA_big {a b n m : Nat} {F : Mtx} {x : Nat → Rat} (hF : ∀ i, i < n → ∀ j, j < m → NB a a (F i j)) (hx : ∀ j, j < m → NB b b (x j)) (h : (a + b) + m * (a + b + 1) ≤ 3900) : SzA n m F x := by
  refine ⟨fun i hi j hj => ?_, fun i hi k hk => ?_⟩
  · have h1 := rd_nb (hF i hi j hj)
    have h2 := rd_nb (hx j hj)
    have : 1 * (a + b + 1) ≤ m * (a + b + 1) := Nat.mul_le_mul_right _ (by omega)
    omega
  · have h1 := rd_nb (NB.sum (n := k) (f := fun j => F i j * x j) (a := a + b) (b := a + b) fun t ht => (hF i hi t (by omega)).mul (hx t (by omega)))
    have h2 : k * (a + b + 1) ≤ m * (a + b + 1) := Nat.mul_le_mul_right _ hk
    have h3 : k * (a + b) ≤ k * (a + b + 1) := Nat.mul_le_mul_left _ (by omega)
    have h4 : rd (sm k fun j => F i j * x j) = rd (dotM k (F i) x) := rfl
    omega
theorem pow4 {k m : Nat} (hm : m ≤ 4) : (k + 1) * 2 ^ m ≤ (k + 1) * 16 := Nat.mul_le_mul_left _ (Nat.pow_le_pow_right (by decide) hm)
theorem rd_of_nb {k : Nat} {q : Rat} (h : NB k k q) : rd q ≤ k + 1 := by
  have := rd_nb h
  rwa [Nat.max_self] at this
/-- four small integers -/
def X4 (x : Nat → Int) : List D := lst 4 fun k => .int .i8 (x k)
end Go.Proofs

/-
  MATRIX: MatrixReduces. Own work.
-/
namespace Go.Mx
open Go
theorem gap_len {n : Nat} {F : Mtx} : ∀ w, (redM n F w).lead.length ≤ w ∧ ((redM n F w).gap = false ↔ (redM n F w).lead.length = w)
  | 0 => by simp [redM]
  | w + 1 => by
    obtain ⟨h1, h2⟩ := gap_len (n := n) (F := F) w
    have e : redM n F (w + 1) = stpM n (redM n F w) w := rfl
    by_cases hf : lookM (redM n F w).F w (n - (redM n F w).lead.length) (redM n F w).lead.length < n
    · rw [e, stp_found hf]
      simp only [List.length_append, List.length_singleton]
      exact ⟨by omega, by rw [h2]; omega⟩
    · rw [e, stp_not hf]
      refine ⟨by show (redM n F w).lead.length ≤ w + 1; omega, ⟨fun h => by simp at h, fun h => ?_⟩⟩
      have h : (redM n F w).lead.length = w + 1 := h
      omega
theorem fac_ne {n : Nat} {F : Mtx} : ∀ w, (redM n F w).fac ≠ 0
  | 0 => by simp only [redM]; decide +kernel
  | w + 1 => by
    have h := fac_ne (n := n) (F := F) w
    have e : redM n F (w + 1) = stpM n (redM n F w) w := rfl
    by_cases hf : lookM (redM n F w).F w (n - (redM n F w).lead.length) (redM n F w).lead.length < n
    · rw [e, stp_found hf]
      have h2 : (redM n F w).F (lookM (redM n F w).F w (n - (redM n F w).lead.length) (redM n F w).lead.length) w ≠ 0 := ((look_spec (good_red n F w).len).1 hf).1
      intro h3
      dsimp only at h3
      rcases Rat.mul_eq_zero.1 h3 with h4 | h4
      · split at h4
        · exact h h4
        · exact h (by grind)
      · exact h2 h4
    · rw [e, stp_not hf]; exact h
theorem det_facG {n : Nat} {F : Mtx} : detM n F = facG (redM n F n) := by
  obtain ⟨h1, h2⟩ := gap_len (n := n) (F := F) n
  unfold detM facG
  by_cases h : (redM n F n).lead.length = n
  · rw [if_neg (by omega), if_neg (by rw [h2.2 h]; decide)]
  · rw [if_pos (by omega), if_pos (by cases hg : (redM n F n).gap with | true => rfl | false => exact absurd (h2.1 hg) h)]
theorem facG_zero {n : Nat} {F : Mtx} : facG (redM n F n) = 0 ↔ (redM n F n).lead.length ≠ n := by
  obtain ⟨h1, h2⟩ := gap_len (n := n) (F := F) n
  unfold facG
  by_cases h : (redM n F n).lead.length = n
  · rw [if_neg (by rw [h2.2 h]; decide)]
    exact ⟨fun h3 => absurd h3 (fac_ne n), fun h3 => absurd h h3⟩
  · rw [if_pos (by cases hg : (redM n F n).gap with | true => rfl | false => exact absurd (h2.1 hg) h)]
    exact ⟨fun _ => h, fun _ => rfl⟩
end Go.Mx
namespace Go.Proofs
open Go Go.Pi Go.RowKit Go.Shelf Go.Ar Go.Mx

theorem Tryz.xred (n m : Nat) (F : Mtx) (hn2 : n ≤ 12) (hm2 : m ≤ 24) (h0 : n = 0 → m = 0) (hb : Bnd n m m F) :
    Con Tryz.prog Tryz.L 19 [matD n m F] (.tup [matD (redM n F m).lead.length m (redM n F m).F, .sl (redM n F m).lead.length ((redM n F m).lead.map fun c : Nat => .int .i64 c), .str (rt (facG (redM n F m)))]) := by
  by_cases h : n = 0 ∨ m = 0
  · obtain rfl : m = 0 := by rcases h with h | h; exact h0 h; exact h
    have := Tryz.xreduced0 n 0 F hn2 (.inr rfl) h0
    have e : facG (redM n F 0) = 1 := by simp [redM, facG]
    rw [e, rt_one.2 rfl]
    exact this
  · exact Tryz.xreduced n m F (by omega) hn2 (by omega) hm2 hb
set_option maxRecDepth 100000 in
set_option maxHeartbeats 8000000 in
theorem Tryz.lreduces (g : Grd) (hg : g.ok) : Con Tryz.prog Tryz.L 4 [.agg g.D] (.bool true) := by
  have hgn := g.n4; have hgm := g.m4
  have hgd := good_red g.n g.F g.m
  have hp4 : (2 + 1) * 2 ^ g.m ≤ 48 := pow4 hgm
  have hrb0 := rbs_red g.rb (w := g.m) (Nat.le_refl _)
  have hrb : RBs 47 g.n g.m (redM g.n g.F g.m).F := fun i hi => (hrb0 i hi).mono (by omega)
  have hB := bnd_of g.rb (Nat.le_refl g.m) (by omega)
  have hss : Rts (redM g.n g.F g.m).lead.length g.m (redM g.n g.F g.m).F := fun i hi j hj => by
    have := rd_of_nb ((hrb i (Nat.lt_of_lt_of_le hi hgd.len)).nb hj); omega
  refine rule4 Tryz.hL rfl rfl rfl ?_
  (simp only [pc4, rs4, oU, oC]; refine ev ?_; try with_reducible exact trivial)
  refine ⟨g19 g, gone g, ?_⟩
  refine callF_of Tryz.mknown ?_
  simp only [evX, evY, evZ, forall_const, implies_true, initE, stepF, D.clean, mvF, moF, tkF, shF, ariF, ciF, catF, scF, ebF, eqF, eqOk, eqPr, enF, notF, ngF, cvF, csF, csbF, lenF, lenSF, ixF, iaF, PX.slot, iaAF, faF, ldF, D.mem, stF, bxF, mkSF, boundF, fldF, ixAF, mmF2, D.plain, D.isPure, optAll, D.dull, callVF, splice, D.cells, D.one, sets, resT, D.flat, D.flat0, D.simple, Nat.reduceBNe, Nat.reduceLT, reduceIte, Nat.reduceEqDiff, Nat.reduceAdd, Nat.reduceMul, Nat.reduceSub, Nat.reduceLeDiff, Int.reduceToNat, Int.reduceLT, Int.reduceLE, Int.reduceEq, Int.reduceNeg, Int.reduceSub, Int.reduceAdd, Int.reduceMul, stG_own, gl19]
  refine callF_of (Tryz.mmake g hg) ?_
  (refine ev ?_; try with_reducible exact trivial)
  refine callF_of (Tryz.mreduce g.n g.m g.F (by omega) (by omega) g.nm g.rts hB hss) ?_
  (refine ev ?_; try with_reducible exact trivial)
  refine callF_of (Tryz.mrank g.n g.m g.F (by omega) (by omega) g.nm g.rts hB) ?_
  (refine ev ?_; try with_reducible exact trivial)
  have hxr := Tryz.xred g.n g.m g.F (by omega) (by omega) g.nm hB
  have hsa := Tryz.xsame (redM g.n g.F g.m).lead.length g.m (redM g.n g.F g.m).F (by have := hgd.len; omega) (by omega)
  have hcl := Tryz.xcolumns g.n g.m g.F (by omega) g.nm
  have hln := hgd.len
  by_cases hnm : g.n = g.m
  · have eD : matD g.n g.m g.F = matD g.n g.n g.F := by rw [hnm]
    have r1 : RBs 2 g.n g.n g.F := by have := g.rb; rwa [← hnm] at this
    have hpn : (2 + 1) * 2 ^ g.n ≤ 48 := pow4 hgn
    have hd : Con Tryz.prog Tryz.L 18 [matD g.n g.m g.F] (.tup [.str (rt (detM g.n g.F)), .int .i64 0]) := by rw [eD]; exact (Tryz.mdetK hgn r1 (by omega)).1
    have ef : facG (redM g.n g.F g.m) = detM g.n g.F := by rw [det_facG, ← hnm]
    have rw2 : RBs 2 g.n (g.n + g.n) (wideM g.n g.F oneM) := fun i hi => by
      refine ⟨2, by decide, by decide, fun j hj => ?_⟩
      unfold wideM
      by_cases h : j < g.n
      · rw [if_pos h]
        obtain ⟨u, h1, h2⟩ := g.half i j
        exact ⟨u, by omega, h2⟩
      · rw [if_neg h]
        unfold oneM
        split
        · exact ⟨2, by decide, by decide +kernel⟩
        · exact ⟨0, by decide, by decide +kernel⟩
    have rw3 := rbs_red rw2 (w := g.n) (by omega)
    have inb : ∀ i, i < g.n → ∀ j, j < g.n → NB 47 47 (invM g.n g.F i j) := fun i hi j hj => ((rw3 i hi).mono (by omega)).nb (j := g.n + j) (by omega)
    have hirt : Rts g.n g.n (invM g.n g.F) := fun i hi j hj => by have := rd_of_nb (inb i hi j hj); omega
    have hinv := Tryz.minv g.n g.F (by omega) (rts_of r1 (by decide)) (bnd_of rw2 (by omega) (by omega)) fun _ => hirt
    rw [← eD] at hinv
    have em : redM g.n g.F g.m = redM g.n g.F g.n := by rw [← hnm]
    have hz := facG_zero (n := g.n) (F := g.F)
    rw [← em] at hz
    refine callF_of hd ?_
    (refine ev ?_; try with_reducible exact trivial)
    by_cases hl : (redM g.n g.F g.n).lead.length = g.n
    · rw [if_pos hl] at hinv
      have hf0 : ¬facG (redM g.n g.F g.m) = 0 := fun h => hz.1 h (by rw [em]; exact hl)
      refine callF_of hinv ?_
      (refine ev ?_; try with_reducible exact trivial)
      refine callF_of hxr ?_
      (refine ev ?_; try with_reducible exact trivial)
      refine callF_of hsa ?_
      (refine ev ?_; try with_reducible exact trivial)
      refine loopF_of (fun E => ∃ k : Nat, k ≤ (redM g.n g.F g.m).lead.length ∧ E = [(3, .own false 49 g.n (rowsD g.n g.m g.F)), (5, .sl (redM g.n g.F g.m).lead.length ((redM g.n g.F g.m).lead.map fun c : Nat => .int .i64 c)), (9, .str (rt (detM g.n g.F))), (10, .int .i64 0), (11, matD g.n g.n (invM g.n g.F)), (12, .int .i64 0), (14, .sl (redM g.n g.F g.m).lead.length ((redM g.n g.F g.m).lead.map fun c : Nat => .int .i64 c)), (15, .str (rt (facG (redM g.n g.F g.m)))), (16, .int .i64 k)])
        (fun E => match lk E 16 with | .int _ i => (redM g.n g.F g.m).lead.length - i.toNat | _ => 0) ⟨0, Nat.zero_le _, rfl⟩ ?_
      rintro _ ⟨k, hk, rfl⟩
      (refine ev ?_; try with_reducible exact trivial)
      refine ⟨fun h4 => ⟨⟨by omega, by omega, by rw [List.length_map]; omega⟩, ?_⟩, fun h4 => ?_⟩
      · rw [ldC_nats]
        refine ⟨by omega, ?_⟩
        (refine ev ?_; try with_reducible exact trivial)
        refine ⟨⟨by omega, by omega, by rw [List.length_map]; omega⟩, ?_⟩
        rw [ldC_nats]
        refine ⟨by omega, ?_⟩
        (refine ev ?_; try with_reducible exact trivial)
        exact ⟨by omega, ⟨k + 1, by omega, by simp⟩, by omega⟩
      · refine callF_of hcl ?_
        (refine ev ?_; try with_reducible exact trivial)
        have hsz := fun c (hc : c < g.n) => szA_big (a := 2) (b := 47) (n := g.n) (m := g.n) (F := g.F) (x := trM (invM g.n g.F) c) (fun i hi j hj => (r1 i hi).nb hj) (fun j hj => inb j hj c hc) (by have : g.n * (2 + 47 + 1) ≤ 4 * 50 := Nat.mul_le_mul_right _ hgn; omega)
        have hprod := Tryz.xproduct g.n g.n g.n g.F (invM g.n g.F) (by omega) (by omega) (by omega) id fun i hi c hc => ⟨(hsz c hc).1 i hi, (hsz c hc).2 i hi⟩
        rw [← eD] at hprod
        have eM : matD g.n g.n (prodM g.n g.F (invM g.n g.F)) = matD g.n g.n oneM := by
          have h1 : rowsD g.n g.n (prodM g.n g.F (invM g.n g.F)) = rowsD g.n g.n oneM := lst_congr fun i hi => by
            have h2 : strs g.n (prodM g.n g.F (invM g.n g.F) i) = strs g.n (oneM i) := lst_congr fun j hj => by
              show D.str (rt (dotM g.n (g.F i) fun t => invM g.n g.F t j)) = D.str (rt (oneM i j))
              rw [inv_right (n := g.n) (F := g.F) hl hi hj]
            show D.sl g.n _ = D.sl g.n _
            rw [h2]
          show D.sl g.n _ = D.sl g.n _
          rw [h1]
        have hun := Tryz.xunits g.n (by omega)
        rw [← eM] at hun
        refine ⟨fun h => h (by omega), fun _ => ⟨fun h => h (by rw [ef]), fun _ => ⟨fun h => hf0 (rt_zero.1 h), fun _ => ?_⟩⟩⟩
        refine callF_of hprod ?_
        (refine ev ?_; try with_reducible exact trivial)
        refine callF_of hun ?_
        (refine ev ?_; try with_reducible exact trivial)
    · rw [if_neg hl] at hinv
      have hf0 : facG (redM g.n g.F g.m) = 0 := hz.2 (by rw [em]; exact hl)
      refine callF_of hinv ?_
      (refine ev ?_; try with_reducible exact trivial)
      refine callF_of hxr ?_
      (refine ev ?_; try with_reducible exact trivial)
      refine callF_of hsa ?_
      (refine ev ?_; try with_reducible exact trivial)
      refine loopF_of (fun E => ∃ k : Nat, k ≤ (redM g.n g.F g.m).lead.length ∧ E = [(3, .own false 49 g.n (rowsD g.n g.m g.F)), (5, .sl (redM g.n g.F g.m).lead.length ((redM g.n g.F g.m).lead.map fun c : Nat => .int .i64 c)), (9, .str (rt (detM g.n g.F))), (10, .int .i64 0), (11, .sl 0 []), (12, .int .i64 18), (14, .sl (redM g.n g.F g.m).lead.length ((redM g.n g.F g.m).lead.map fun c : Nat => .int .i64 c)), (15, .str (rt (facG (redM g.n g.F g.m)))), (16, .int .i64 k)])
        (fun E => match lk E 16 with | .int _ i => (redM g.n g.F g.m).lead.length - i.toNat | _ => 0) ⟨0, Nat.zero_le _, rfl⟩ ?_
      rintro _ ⟨k, hk, rfl⟩
      (refine ev ?_; try with_reducible exact trivial)
      refine ⟨fun h4 => ⟨⟨by omega, by omega, by rw [List.length_map]; omega⟩, ?_⟩, fun h4 => ?_⟩
      · rw [ldC_nats]
        refine ⟨by omega, ?_⟩
        (refine ev ?_; try with_reducible exact trivial)
        refine ⟨⟨by omega, by omega, by rw [List.length_map]; omega⟩, ?_⟩
        rw [ldC_nats]
        refine ⟨by omega, ?_⟩
        (refine ev ?_; try with_reducible exact trivial)
        exact ⟨by omega, ⟨k + 1, by omega, by simp⟩, by omega⟩
      · refine callF_of hcl ?_
        (refine ev ?_; try with_reducible exact trivial)
        exact ⟨fun h => h (by omega), fun _ => ⟨fun h => h (by rw [ef]), fun _ => ⟨fun _ => dB_iff.2 rfl, fun h => h (rt_zero.2 hf0)⟩⟩⟩
  · refine callF_of (Tryz.mdet5 g.n g.m g.F (by omega) (by omega) g.nm hnm g.rts) ?_
    (refine ev ?_; try with_reducible exact trivial)
    refine callF_of (Tryz.minv5 g.n g.m g.F (by omega) (by omega) g.nm hnm g.rts) ?_
    (refine ev ?_; try with_reducible exact trivial)
    refine callF_of hxr ?_
    (refine ev ?_; try with_reducible exact trivial)
    refine callF_of hsa ?_
    (refine ev ?_; try with_reducible exact trivial)
    refine loopF_of (fun E => ∃ k : Nat, k ≤ (redM g.n g.F g.m).lead.length ∧ E = [(3, .own false 49 g.n (rowsD g.n g.m g.F)), (5, .sl (redM g.n g.F g.m).lead.length ((redM g.n g.F g.m).lead.map fun c : Nat => .int .i64 c)), (9, .str []), (10, .int .i64 5), (11, .sl 0 []), (12, .int .i64 5), (14, .sl (redM g.n g.F g.m).lead.length ((redM g.n g.F g.m).lead.map fun c : Nat => .int .i64 c)), (15, .str (rt (facG (redM g.n g.F g.m)))), (16, .int .i64 k)])
      (fun E => match lk E 16 with | .int _ i => (redM g.n g.F g.m).lead.length - i.toNat | _ => 0) ⟨0, Nat.zero_le _, rfl⟩ ?_
    rintro _ ⟨k, hk, rfl⟩
    (refine ev ?_; try with_reducible exact trivial)
    refine ⟨fun h4 => ⟨⟨by omega, by omega, by rw [List.length_map]; omega⟩, ?_⟩, fun h4 => ?_⟩
    · rw [ldC_nats]
      refine ⟨by omega, ?_⟩
      (refine ev ?_; try with_reducible exact trivial)
      refine ⟨⟨by omega, by omega, by rw [List.length_map]; omega⟩, ?_⟩
      rw [ldC_nats]
      refine ⟨by omega, ?_⟩
      (refine ev ?_; try with_reducible exact trivial)
      exact ⟨by omega, ⟨k + 1, by omega, by simp⟩, by omega⟩
    · refine callF_of hcl ?_
      (refine ev ?_; try with_reducible exact trivial)
      exact ⟨fun _ => dB_iff.2 rfl, fun h => absurd (fun h3 : (g.n : Int) = g.m => hnm (by omega)) h⟩
end Go.Proofs
