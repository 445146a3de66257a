/-
  RELATIONS as data; the units of a list, by the library's sort. Own work.
-/
import Derived.Test.YtijkmdpdedagdaaGreatDoorRb
import Derived.Test.YtijkmdpdedagdaaGreatDoorPj
import Derived.Test.YtijkmdpdedagdaaGreatDoorEb
import Derived.Test.YtijkmdpdedagdaaGreatDoorEc
import Derived.Test.YtijkmdpdedagdaaGreatDoorShelf
import Derived.Deep.RegionHeld3
import Derived.Deep.LoopGhost
import Derived.Deep.AppendLies
import Derived.Lib.OwnBridge
import Derived.Sort.OwnSorted
set_option linter.unusedVariables false
set_option linter.unusedSimpArgs false
namespace Go.Tp
open Go.Pi Go.Lib Go.Sort
/-- a relation: its kind, its upper and its lower unit -/
structure Rl where
  k : Nat
  u : List UInt8
  l : List UInt8
deriving DecidableEq
def relD (x : Rl) : List D := [.int .i64 x.k, .str x.u, .str x.l]
abbrev rels (l : List Rl) : List D := rows relD l
abbrev relsD (l : List Rl) : D := .sl l.length (rels l)
theorem relD_len (x : Rl) : (relD x).length = 3 := rfl
theorem rels_len (l : List Rl) : (rels l).length = l.length * 3 := rows_length relD_len l
def relC (x : Rl) : List Value := [.int .i64 x.k, .string ⟨x.u.toArray⟩, .string ⟨x.l.toArray⟩]
def names (l : List Rl) : List (List UInt8) := l.flatMap fun x => [x.u, x.l]
theorem names_snoc (l : List Rl) (x : Rl) : names (l ++ [x]) = names l ++ [x.u, x.l] := by simp [names]
theorem names_len (l : List Rl) : (names l).length = 2 * l.length := by
  induction l with
  | nil => rfl
  | cons x l ih => show (_ :: _ :: names l).length = _; simp only [List.length_cons]; omega
abbrev unitsF (l : List Rl) : List (List UInt8) := usort (names l)
abbrev strsD (l : List (List UInt8)) : D := .sl l.length (l.map .str)
theorem rels_at : ∀ {l : List Rl} {k : Nat} {x : Rl}, l[k]? = some x → (rels l)[k * 3]? = some (.int .i64 x.k) ∧ (rels l)[k * 3 + 1]? = some (.str x.u) ∧ (rels l)[k * 3 + 2]? = some (.str x.l)
  | y :: l, 0, x, h => by cases h; exact ⟨rfl, rfl, rfl⟩
  | y :: l, k + 1, x, h => by
    have ih := rels_at (l := l) (k := k) (x := x) (by simpa using h)
    have e : ∀ j, (rels (y :: l))[j + 3]? = (rels l)[j]? := fun j => rfl
    rw [show (k + 1) * 3 = k * 3 + 3 by omega, show k * 3 + 3 + 1 = k * 3 + 1 + 3 by omega, show k * 3 + 3 + 2 = k * 3 + 2 + 3 by omega, e, e, e]
    exact ih
/-- the cells of a list of relations that was handed in -/
theorem rel_cells {S : Nat → Nat → Prop} {W : World} {v : Value} {l : List Rl} (h : Rep S W (relsD l) v) :
    ∃ ad cap, v = .slice ad l.length cap ∧ ∀ j x, l[j]? = some x → ∃ b off, ad = some ⟨b, off, none⟩ ∧ (∀ i, i < 3 → S b (off + j * 3 + i)) ∧ W.cell? ⟨b, off + j * 3, none⟩ = some (.int .i64 x.k) ∧ W.cell? ⟨b, off + j * 3 + 1, none⟩ = some (.string ⟨x.u.toArray⟩) ∧ W.cell? ⟨b, off + j * 3 + 2, none⟩ = some (.string ⟨x.l.toArray⟩) ∧ x.u.length ≤ maxLen ∧ x.l.length ≤ maxLen := by
  generalize hd : relsD l = d at h
  cases h with
  | sl0 a cap hc =>
    injection hd with h1 h2
    obtain rfl : l = [] := List.length_eq_zero_iff.1 h1
    exact ⟨a, cap, rfl, fun j x hj => by simp at hj⟩
  | slN =>
    injection hd with h1 h2
    obtain rfl : l = [] := List.length_eq_zero_iff.1 h1
    cases h2
  | sl n ds b off cap vs hl' h1 hn hc hr h =>
    injection hd with e1 e2
    subst e1; subst e2
    refine ⟨some ⟨b, off, none⟩, cap, rfl, fun j x hj => ⟨b, off, rfl, fun i hi => ?_, ?_⟩⟩
    · have hlt : j < l.length := (List.getElem?_eq_some_iff.1 hj).1
      have hl2 : j * 3 + i < vs.length := by rw [← hl', rels_len]; omega
      have := (hr (j * 3 + i) _ (List.getElem?_eq_getElem hl2)).1
      rwa [← Nat.add_assoc] at this
    · obtain ⟨c1, c2, c3⟩ := rels_at hj
      have g := fun (i : Nat) (d : D) (hd : (rels l)[i]? = some d) => (show ∃ u, vs[i]? = some u ∧ Rep S W d u from Reps.get (S := S) (w := W) ⟨hl', h⟩ hd)
      obtain ⟨u1, a1, b1⟩ := g _ _ c1
      obtain ⟨u2, a2, b2⟩ := g _ _ c2
      obtain ⟨u3, a3, b3⟩ := g _ _ c3
      obtain ⟨rfl, l2⟩ := b2.str_inv
      obtain ⟨rfl, l3⟩ := b3.str_inv
      cases b1
      refine ⟨(hr _ _ a1).2, ?_, ?_, l2, l3⟩
      · have := (hr _ _ a2).2; rwa [← Nat.add_assoc] at this
      · have := (hr _ _ a3).2; rwa [← Nat.add_assoc] at this
  | _ => cases hd
/-- an own row of texts, read -/
theorem rep_strL {W : World} {S : Nat → Nat → Prop} {base e : Nat} {v : Value} {l : List (List UInt8)} (h : W.ownsRow base e 1 v l.length (l.map Go.Proofs.encStr)) (hl : ∀ x ∈ l, x.length ≤ maxLen) (hS : ∀ b j, base ≤ b → b < W.heap.size → S b j) : Rep S W (strsD l) v := by
  rcases h.2 with ⟨rfl, h0⟩ | ⟨b, cap, cur, rfl, hbg, hg, hn, hc, _, _⟩
  · rw [show strsD l = .sl 0 [] by rw [List.length_eq_zero_iff.1 h0]; rfl]; exact .sl0 none 0 (Nat.zero_le _)
  · refine .sl _ (l.map .str) b 0 cap (l.map Go.Proofs.encStr) (by simp) (fun d hd => ?_) hn hc (fun i u hu => ⟨hS b _ hbg (Array.getElem?_eq_some_iff.1 hg).1, ?_⟩) (fun i d u hd hu => ?_)
    · obtain ⟨x, _, rfl⟩ := List.mem_map.1 hd
      rfl
    · have hlt := (List.getElem?_eq_some_iff.1 hu).1
      rw [List.length_map] at hlt
      rw [Nat.zero_add, h.cellAt i (by omega)]; exact hu
    · rw [List.getElem?_map] at hd hu
      cases hx : l[i]? with
      | none => rw [hx] at hd; cases hd
      | some x => rw [hx] at hd hu; cases hd; cases hu; exact .str x (hl x (List.mem_of_getElem? hx))
end Go.Tp
namespace Go.Proofs
open Go Go.Pi Go.RowKit Go.Shelf Go.Tp Go.Lib
/-- nothing is asked of the world -/
def Tryz.L : World → Prop := fun _ => True
theorem Tryz.hL : ∀ w w', Tryz.L w → Below w.heap.size w w' → Tryz.L w' := fun _ _ _ _ => trivial
end Go.Proofs

/-
  SUCCESSION: units, in the plain walk, given the library's sort as an own-row law. Own work.
-/
namespace Go.Proofs
open Go Go.Pi Go.RowKit Go.Shelf Go.Tp Go.Lib

/-- the sort in the words of own rows -/
def Tryz.SortOk : Prop := ∀ (base : Nat) (W : World) (v : Value) (ss : List (List UInt8)), ss.length ≤ 1000 → W.ownsRow base 9 1 v ss.length (ss.map encStr) →
  Calls Tryz.prog 32 #[v] W fun e W' => e = .returned (.tuple #[]) ∧ W'.ownsRow base 9 1 v ss.length ((ss.mergeSort fun x y => decide (x ≤ y)).map encStr) ∧ W.grownBy W' v.ownBlock
theorem news_al (w : World) (o : Obj) (cs : Array Value) (t : TypeId) (b : Nat) (hb : b = w.heap.size + 1) : ∀ j u, cs.toList[j]? = some u → ((w.alloc o).alloc (.cells cs t)).cell? ((⟨b, 0, none⟩ : Addr).add j) = some u := by
  intro j u h
  subst hb
  have := World.news_of_block (heap_alloc_new (w.alloc o) (.cells cs t)) j u h
  rw [World.size_alloc] at this
  exact this
theorem own_shape1 {w : World} {base e sz n : Nat} {v : Value} {xs : List Value} (h : w.ownsRow base e sz v n xs) : ∃ ad cap, v = .slice ad n cap := by
  rcases h.2 with ⟨h1, h2⟩ | ⟨g, cap, cur, h1, _⟩
  · exact ⟨none, 0, by rw [h1, h2]⟩
  · exact ⟨_, _, h1⟩
theorem putRow_grown {α : Type} [Inhabited α] {enc : α → Value} (W : World) (q g off : Nat) (d : Array α) : W.grownBy (Sort.putRow enc (Sort.ahead W q) g off d) (some g) := by
  refine ⟨rfl, rfl, rfl, ?_, fun k hk hne => ?_⟩
  · simp [Sort.putRow, Sort.mapBlock, Sort.ahead]
  · have : k ≠ g := fun e => hne (by rw [e])
    simp [Sort.putRow, Sort.mapBlock, Sort.ahead, Array.getElem?_modify, this.symm]
theorem Tryz.sortOk : Tryz.SortOk := by
  intro base W v ss hl hown
  by_cases h0 : ss.length = 0
  · have : ss = [] := List.length_eq_zero_iff.1 h0
    subst this
    obtain ⟨ad, cap, rfl⟩ := own_shape1 hown
    refine (Tryz.slices_Sort_string_none ad cap W).mono ?_
    rintro e W' ⟨rfl, rfl⟩
    exact ⟨rfl, by simpa using hown, ⟨rfl, rfl, rfl, Nat.le_refl _, fun _ _ _ => rfl⟩⟩
  · obtain ⟨g, cap, rfl, hg1, hg2⟩ := hown.form (by omega)
    have hH : Sort.Holds encStr W g 0 ss.toArray := by
      intro j hj
      have hj' : j < ss.length := by simpa using hj
      refine ⟨?_, hown.frozenAt _⟩
      rw [Nat.zero_add, hown.cellAt j (by omega), List.getElem?_map, List.getElem?_eq_getElem hj', getElem!_pos _ j hj]
      simp
    refine (Tryz.slices_Sort_string g 0 cap ss W hH hg2 (by omega)).mono ?_
    rintro e W' ⟨rfl, n, os, rfl⟩
    rcases hown.2 with ⟨h1, _⟩ | ⟨g', cap', cur, h1, hbg, hg, h2, h3, h4, h5⟩
    · cases h1
    · cases h1
      exact ⟨rfl, ownsRow_sorted (by rw [List.length_mergeSort]) hbg hg h2 h3 h4, grownBy_sorted _⟩
theorem Tryz.ncompact (base : Nat) (W : World) (v : Value) (ss : List (List UInt8)) (hl : ss.length ≤ 1000) (hown : W.ownsRow base 9 1 v ss.length (ss.map encStr)) :
    Calls Tryz.prog 33 #[v] W fun e W' => ∃ v', e = .returned v' ∧ W'.ownsRow base 9 1 v' (compact ss).length ((compact ss).map encStr) ∧ W.grownBy W' v.ownBlock := by
  by_cases h0 : ss.length = 0
  · have : ss = [] := List.length_eq_zero_iff.1 h0
    subst this
    obtain ⟨ad, cap, rfl⟩ := own_shape1 hown
    refine (Tryz.slices_Compact_string_empty ad cap W).mono ?_
    rintro e W' ⟨rfl, rfl⟩
    exact ⟨_, rfl, hown, ⟨rfl, rfl, rfl, Nat.le_refl _, fun _ _ _ => rfl⟩⟩
  · obtain ⟨g, cap, rfl, hg1, hg2⟩ := hown.form (by omega)
    have hcap : ss.length ≤ cap := by
      rcases hown.2 with ⟨h1, _⟩ | ⟨g', cap', cur, h1, _, _, h2, _⟩
      · cases h1
      · cases h1; exact h2
    have hH : Sort.Holds encStr W g 0 ss.toArray := by
      intro j hj
      have hj' : j < ss.length := by simpa using hj
      refine ⟨?_, hown.frozenAt _⟩
      rw [Nat.zero_add, hown.cellAt j (by omega), List.getElem?_map, List.getElem?_eq_getElem hj', getElem!_pos _ j hj]
      simp
    refine (Tryz.slices_Compact_string g 0 cap ss W hH (by omega) hcap).mono ?_
    rintro e W' ⟨rfl, q, rfl⟩
    have hcl : (compact ss).length ≤ ss.length := by
      have : ∀ l : List (List UInt8), (compact l).length ≤ l.length := fun l => by
        unfold compact compactUpTo
        rw [List.length_map]
        refine Nat.le_trans (List.length_filter_le ..) (by simp)
      exact this ss
    have := ownsRow_putRow (ys := compact ss ++ List.replicate (ss.length - (compact ss).length) []) (q := q) (k := (compact ss).length) hown (by simp; omega) hcl
    rw [List.take_left] at this
    exact ⟨_, rfl, this, putRow_grown _ _ _ _ _⟩
set_option maxRecDepth 100000 in
set_option maxHeartbeats 4000000 in
theorem Tryz.sunits (hs : Tryz.SortOk) (l : List Rl) (hl : l.length ≤ 200) : Con Tryz.prog Tryz.L 18 [relsD l] (strsD (unitsF l)) := by
  have mixed : Tryz.prog.follows .mixedOrders = true := by kernel_rfl
  have t0 := Tryz.underlying30; have a0 := Tryz.isAgg30; have z0 := Tryz.sizeOf30; have v0 := Tryz.zeroValue30; have u0 := run_underlying Tryz.underlying30
  have t1 := Tryz.underlying9; have a1 := Tryz.isAgg9; have z1 := Tryz.sizeOf9; have v1 := Tryz.zeroValue9; have u1 := run_underlying Tryz.underlying9
  have t2 := Tryz.underlying42; have a2 := Tryz.isAgg42; have z2 := Tryz.sizeOf42; have v2 := Tryz.zeroValue42; have u2 := run_underlying Tryz.underlying42
  have t3 := Tryz.underlying4; have a3 := Tryz.isAgg4; have z3 := Tryz.sizeOf4; have v3 := Tryz.zeroValue4; have u3 := run_underlying Tryz.underlying4
  have t4 := Tryz.underlying3; have a4 := Tryz.isAgg3; have z4 := Tryz.sizeOf3; have v4 := Tryz.zeroValue3; have u4 := run_underlying Tryz.underlying3
  have t5 := Tryz.underlying24
  have hip : (Tryz.prog.info? 9).map (fun i => (i.zero, i.size, i.bytes)) = some (some (.string ⟨#[]⟩), 1, 16) := by kernel_rfl
  obtain ⟨ip, hip1, hip2, hip3, hip4⟩ := info_parts hip
  refine ⟨⟨by kernel_rfl, rfl⟩, fun S W vs hS hL hrep => ?_⟩
  obtain ⟨va, r1, rfl, hra, t1'⟩ := hrep.uncons
  obtain rfl : r1 = [] := List.length_eq_zero_iff.1 t1'.1.symm
  clear t1' hrep
  obtain ⟨ad, cap, rfl, HC⟩ := rel_cells hra
  have HC' : Hid (∀ j x, l[j]? = some x → ∃ b off, ad = some ⟨b, off, none⟩ ∧ b < W.heap.size ∧ W.cell? ⟨b, off + j * 3, none⟩ = some (.int .i64 x.k) ∧ W.cell? ⟨b, off + j * 3 + 1, none⟩ = some (.string ⟨x.u.toArray⟩) ∧ W.cell? ⟨b, off + j * 3 + 2, none⟩ = some (.string ⟨x.l.toArray⟩)) := by
    intro j x hj
    obtain ⟨b, off, e1, e2, e3, e4, e5, _⟩ := HC j x hj
    exact ⟨b, off, e1, hS b _ (e2 0 (by decide)), e3, e4, e5⟩
  have HM : Hid (∀ x ∈ names l, x.length ≤ maxLen) := by
    intro x hx
    unfold names at hx
    obtain ⟨y, hy, hx⟩ := List.mem_flatMap.1 hx
    obtain ⟨j, hj⟩ := List.getElem?_of_mem hy
    obtain ⟨_, _, _, _, _, _, _, h1, h2⟩ := HC j y hj
    simp only [List.mem_cons, List.not_mem_nil, or_false] at hx
    rcases hx with rfl | rfl <;> assumption
  clear HC hra
  show Calls _ _ #[.slice ad l.length cap] _ _
  go_enter Tryz.func18, Tryz.ntmps18
  go_wp2
  go_loopg [3, 8] l.length (fun gg s3 s8 wr => ∃ k : Nat, s8 = .int .i64 k ∧ k ≤ l.length ∧ l.length ≤ gg + k ∧ wr.ownsRow W.heap.size 9 1 s3 (names (l.take k)).length ((names (l.take k)).map encStr) ∧ Below W.heap.size W wr)
  case atStart => exact ⟨0, rfl, by omega, by omega, World.ownsRow_nil _ _ _ _, Below.refl _ _⟩
  case round =>
    obtain ⟨k, rfl, hk, hgk, hown, hbw⟩ := hrel
    by_cases hkl : k < l.length
    · have hkz : (k : Int) < (l.length : Int) := by omega
      have hx : l[k]? = some (l[k]'hkl) := List.getElem?_eq_getElem hkl
      generalize l[k]'hkl = x at hx
      obtain ⟨b, off, rfl, hb, e3, e4, e5⟩ := HC'.out k x hx
      have d3 := (hbw.cell (p := ⟨b, off + k * 3, none⟩) hb).trans e3
      have d4 := (hbw.cell (p := ⟨b, off + k * 3 + 1, none⟩) hb).trans e4
      have d5 := (hbw.cell (p := ⟨b, off + k * 3 + 2, none⟩) hb).trans e5
      have l1 : b < wr.heap.size := Nat.lt_of_lt_of_le hb hbw.size
      have hs0 := hbw.size
      have hnl : (names (l.take k)).length ≤ 400 := by rw [names_len, List.length_take]; omega
      have HX : Hid (wr.ownsRow W.heap.size 9 1 u3 (names (l.take k)).length ((names (l.take k)).map encStr) ∧ Below W.heap.size W wr ∧ l[k]? = some x) := ⟨hown, hbw, hx⟩
      clear hown hbw hx e3 e4 e5
      go_wp2_with (at_builtin; refine wpList_append_lies _ rfl _ _ 30 rfl W.heap.size 9 ip (.string ⟨#[]⟩) 1 16 Tryz.underlying30 hip1 hip2 hip3 hip4 rfl (by decide) _ (names (l.take k)).length ((names (l.take k)).map encStr) rfl ((HX.out.1.alloc _).alloc _) ⟨_, 0, none⟩ 2 2 [.string ⟨x.u.toArray⟩, .string ⟨x.l.toArray⟩] rfl rfl (news_al wr _ _ _ _ rfl) (by simp [Value.oneCell']) (by decide) (by unfold maxLen; omega) (by omega) (by simp; omega) _ rfl ?_; intro g1 c1 w1 ho1 hg1' hl1 hlt3)
      go_roundg (l.length - (k + 1))
      case measure => omega
      case rel =>
        have e5 : names (l.take (k + 1)) = names (l.take k) ++ [x.u, x.l] := by rw [List.take_add_one, HX.out.2.2]; exact names_snoc _ _
        refine ⟨k + 1, by go_num, by omega, by omega, ?_, ((HX.out.2.1.alloc hs0 _).alloc (Nat.le_trans hs0 (by simp)) _).grown hg1' (by simp; omega) (fun q hq => (HX.out.1.lt q hq).1)⟩
        rw [e5, List.length_append, List.map_append]
        exact ho1
    · obtain rfl : k = l.length := by omega
      rw [List.take_length] at hown
      have hnl : (names l).length ≤ 400 := by rw [names_len]; omega
      have hso := hs W.heap.size wr u3 (names l) (by omega) hown
      go_wp2_with (first
        | (go_at_call 32; refine Calls.mono hso ?_; rintro e W5 ⟨rfl, ho5, hg5⟩; rw [← List.length_mergeSort (le := fun x y : List UInt8 => decide (x ≤ y)) (names l)] at ho5; have hc5 := Tryz.ncompact W.heap.size W5 u3 _ (by rw [List.length_mergeSort]; omega) ho5; rw [compact_sort] at hc5)
        | (go_at_call 33; refine Calls.mono hc5 ?_; rintro e W6 ⟨v6, rfl, ho6, hg6⟩))
      go_ret
      have hgr := gr_trans hg5 hg6
      have hb6 := hbw.grown hgr hbw.size (fun q hq => (hown.lt q hq).1)
      exact ⟨v6, rfl, hb6, rep_strL ho6 (fun x hx => HM.out x (usort_mem.1 hx)) (fun b j h1 h2 => .inr ⟨h1, h2⟩)⟩
end Go.Proofs

/-
  RELATIONS: names, Check, for any texts. Own work.
-/
namespace Go.Proofs
open Go Go.Pi Go.RowKit Go.Tp

theorem dropT {α : Type} : ∀ {l : List α} {k : Nat} {x : α}, l[k]? = some x → l.drop k = x :: l.drop (k + 1)
  | y :: l, 0, x, h => by cases h; rfl
  | y :: l, k + 1, x, h => by simpa using dropT (l := l) (k := k) (by simpa using h)
theorem ldC_byT {l : List UInt8} {k t : Nat} {N : EP} {E : Env} : ldC false 1 (List.take 1 (List.drop k (byD l))) t N E = (∃ x, l[k]? = some x ∧ N (st1 E t (.int .u8 x.toNat))) := by
  unfold ldC
  have e0 : List.drop k (byD l) = byD (l.drop k) := by simp [byD]
  rw [e0]
  cases h : l[k]? with
  | none =>
    have hk : l.length ≤ k := by simpa using h
    rw [List.drop_eq_nil_of_le hk]; simp [ofCells, byD]
  | some x => rw [dropT h]; simp [ofCells, byD, D.one]
/-- a letter of a name: its first, or another one -/
def okT (k n : Nat) : Prop := (97 ≤ n ∧ n ≤ 122) ∨ (65 ≤ n ∧ n ≤ 90) ∨ (k ≠ 0 ∧ ((48 ≤ n ∧ n ≤ 57) ∨ n = 95))
instance (k n : Nat) : Decidable (okT k n) := by unfold okT; infer_instance
def nmT : List UInt8 → Nat → Bool
  | [], _ => true
  | c :: r, k => decide (okT k c.toNat) && nmT r (k + 1)
def nmB (s : List UInt8) : Bool := s != [] && decide (s.length ≤ 32) && nmT s 0
set_option maxRecDepth 100000 in
set_option maxHeartbeats 4000000 in
theorem Tryz.isName (s : List UInt8) : Con Tryz.prog Tryz.L 58 [.str s] (.bool (nmB s)) := by
  refine rule58 Tryz.hL rfl rfl rfl ?_
  (simp only [pc58, rs58, oU, oC]; refine ev ?_; try with_reducible exact trivial)
  refine ⟨fun h0 => ⟨fun h1 => by simp [nmB]; omega, fun h1 => ?_⟩, fun h => by simp [nmB, h]⟩
  have hnm : nmB s = nmT s 0 := by simp [nmB, h0]; omega
  refine loopF_of (fun E => ∃ k : Nat, k ≤ s.length ∧ nmB s = nmT (s.drop k) k ∧ E = [(15, D.sl s.length (byD s)), (16, D.int IntKind.i64 s.length), (17, D.int IntKind.i64 k)])
    (fun E => match lk E 17 with | .int _ i => s.length - i.toNat | _ => 0) ⟨0, Nat.zero_le _, hnm, rfl⟩ ?_
  rintro _ ⟨k, hk, hi, rfl⟩
  simp only [evA, evB, evC, forall_const, implies_true, initE, stepF, D.clean, mvF, moF, tkF, shF, ariF, ciF, catF, scF, ebF, eqF, eqOk, eqPr, enF, notF, ngF, cvF, csF, csbF, lenF, lenSF, ixF, iaF, PX.slot, iaAF, faF, ldF, D.mem, stF, bxF, mkSF, boundF, fldF, ixAF, mmF2, D.plain, D.isPure, optAll, D.dull, callVF, splice, D.cells, D.one, sets, resT, D.flat, D.flat0, D.simple, Nat.reduceBNe, Nat.reduceLT, reduceIte, Nat.reduceEqDiff, Nat.reduceAdd, Nat.reduceMul, Nat.reduceSub, Nat.reduceLeDiff, Int.reduceToNat, Int.reduceLT, Int.reduceLE, Int.reduceEq, Int.reduceNeg, Int.reduceSub, Int.reduceAdd, Int.reduceMul, ldC_byT]
  refine ⟨fun h2 => ?_, fun h2 => ?_⟩
  · have hx : s[k]? = some (s[k]'(by omega)) := List.getElem?_eq_getElem (by omega)
    generalize s[k]'(by omega) = x at hx
    rw [dropT hx] at hi
    simp only [nmT] at hi
    refine ⟨⟨by omega, by omega, by simp [byD]; omega⟩, x, hx, ?_⟩
    have yes : okT k x.toNat → nmB s = nmT (s.drop (k + 1)) (k + 1) := fun h => by rw [hi, decide_eq_true h]; rfl
    have no : ¬okT k x.toNat → false = nmB s := fun h => by rw [hi, decide_eq_false h]; rfl
    unfold okT at yes no
    clear hi hx hnm
    generalize x.toNat = n at yes no
    have fin : (97 ≤ n ∧ n ≤ 122 ∨ 65 ≤ n ∧ n ≤ 90 ∨ k ≠ 0 ∧ (48 ≤ n ∧ n ≤ 57 ∨ n = 95)) → (-9223372036854775808 ≤ (k : Int) + 1 ∧ (k : Int) + 1 ≤ 9223372036854775807) ∧
        (∃ k1 : Nat, k1 ≤ s.length ∧ nmB s = nmT (List.drop k1 s) k1 ∧ (17, D.int IntKind.i64 ((k : Int) + 1)) = (17, D.int IntKind.i64 k1)) ∧ s.length - ((k : Int) + 1).toNat < s.length - k := fun h => ⟨by omega, ⟨k + 1, by omega, yes h, rfl⟩, by omega⟩
    clear yes
    repeat' first
      | intro _
      | exact no (by omega)
      | exact fin (by omega)
      | apply And.intro
  · have : k = s.length := by omega
    subst this
    rw [hi]; simp [nmT]
end Go.Proofs

/-
  RELATIONS: Check. Own work.
-/
namespace Go.Proofs
open Go Go.Pi Go.RowKit Go.Tp

/-- the error of a relation -/
def relE (x : Rl) : Int := if ¬(1 ≤ x.k ∧ x.k ≤ 4) then 12 else if ¬(nmB x.u = true ∧ nmB x.l = true) then 8 else if x.u = x.l then 14 else 0
set_option maxRecDepth 100000 in
set_option maxHeartbeats 4000000 in
theorem Tryz.relCheck (x : Rl) : Con Tryz.prog Tryz.L 28 [.agg (relD x)] (.int .i64 (relE x)) := by
  refine rule28 Tryz.hL rfl rfl rfl ?_
  simp only [relD, pc28, rs28, oU, oC, evX, evY, evZ, forall_const, implies_true, initE, stepF, D.clean, mvF, moF, tkF, shF, ariF, ciF, catF, scF, ebF, eqF, eqOk, eqPr, enF, notF, ngF, cvF, csF, csbF, lenF, lenSF, ixF, iaF, PX.slot, iaAF, faF, ldF, D.mem, stF, bxF, mkSF, boundF, fldF, ixAF, mmF2, D.plain, D.isPure, optAll, D.dull, callVF, splice, D.cells, D.one, sets, resT, D.flat, D.flat0, D.simple, Nat.reduceBNe, Nat.reduceLT, reduceIte, Nat.reduceEqDiff, Nat.reduceAdd, Nat.reduceMul, Nat.reduceSub, Nat.reduceLeDiff, Int.reduceToNat, Int.reduceLT, Int.reduceLE, Int.reduceEq, Int.reduceNeg, Int.reduceSub, Int.reduceAdd, Int.reduceMul]
  refine ⟨fun h1 => ⟨fun h2 => by unfold relE; rw [if_pos (by omega)], fun h2 => ?_⟩, fun h1 => by unfold relE; rw [if_pos (by omega)]⟩
  have hr : relE x = if ¬(nmB x.u = true ∧ nmB x.l = true) then 8 else if x.u = x.l then 14 else 0 := by unfold relE; rw [if_neg (by omega)]
  rw [hr]
  have c1 := Tryz.isName x.u
  have c2 := Tryz.isName x.l
  cases h3 : nmB x.u with
  | false =>
    rw [h3] at c1
    refine callF_of c1 ?_
    (refine ev ?_; try with_reducible exact trivial)
    try simp
  | true =>
    rw [h3] at c1
    refine callF_of c1 ?_
    (refine ev ?_; try with_reducible exact trivial)
    cases h4 : nmB x.l with
    | false =>
      rw [h4] at c2
      refine callF_of c2 ?_
      (refine ev ?_; try with_reducible exact trivial)
      try simp
    | true =>
      rw [h4] at c2
      refine callF_of c2 ?_
      (refine ev ?_; try with_reducible exact trivial)
      try simp
theorem rels_cut {l : List Rl} {k : Nat} {x : Rl} (h : l[k]? = some x) : List.take 3 (List.drop (k * 3) (rels l)) = relD x := by
  have e : List.drop (k * 3) (rels l) = rels (l.drop k) := by
    clear h
    induction l generalizing k with
    | nil => simp [rels, rows]
    | cons y l ih =>
      cases k with
      | zero => simp
      | succ k => rw [show (k + 1) * 3 = k * 3 + 3 by omega]; exact ih (k := k)
  rw [e, dropT h]; rfl
theorem ldC_rels {l : List Rl} {k t : Nat} {N : EP} {E : Env} : ldC true 3 (List.take 3 (List.drop (k * 3) (rels l))) t N E = (∃ x, l[k]? = some x ∧ N (st1 E t (.agg (relD x)))) := by
  cases h : l[k]? with
  | none =>
    have hk : l.length ≤ k := by simpa using h
    rw [List.drop_eq_nil_of_le (by rw [rels_len]; omega)]
    simp [ldC, ofCells]
  | some x =>
    rw [rels_cut h]
    simp [ldC, ofCells, relD]
/-- right relations -/
def RlOk (x : Rl) : Prop := relE x = 0
def GoodR (l : List Rl) : Prop := l.length ≤ 200 ∧ (∀ x ∈ l, RlOk x) ∧ (unitsF l).length ≤ 60
set_option maxRecDepth 100000 in
set_option maxHeartbeats 4000000 in
theorem Tryz.succCheck (l : List Rl) (h : GoodR l) : Con Tryz.prog Tryz.L 15 [relsD l] (.int .i64 0) := by
  obtain ⟨h1, h2, h3⟩ := h
  refine rule15 Tryz.hL rfl rfl rfl ?_
  (simp only [pc15, rs15, oU, oC]; refine ev ?_; try with_reducible exact trivial)
  refine ⟨fun h => absurd h (by omega), fun _ => ?_⟩
  refine loopF_of (fun E => ∃ k : Nat, k ≤ l.length ∧ E = [(0, relsD l), (9, D.sl l.length (rels l)), (10, D.int IntKind.i64 l.length), (11, D.int IntKind.i64 k)])
    (fun E => match lk E 11 with | .int _ i => l.length - i.toNat | _ => 0) ⟨0, Nat.zero_le _, rfl⟩ ?_
  rintro _ ⟨k, hk, rfl⟩
  simp only [evA, evB, evC, forall_const, implies_true, initE, stepF, D.clean, mvF, moF, tkF, shF, ariF, ciF, catF, scF, ebF, eqF, eqOk, eqPr, enF, notF, ngF, cvF, csF, csbF, lenF, lenSF, ixF, iaF, PX.slot, iaAF, faF, ldF, D.mem, stF, bxF, mkSF, boundF, fldF, ixAF, mmF2, D.plain, D.isPure, optAll, D.dull, callVF, splice, D.cells, D.one, sets, resT, D.flat, D.flat0, D.simple, Nat.reduceBNe, Nat.reduceLT, reduceIte, Nat.reduceEqDiff, Nat.reduceAdd, Nat.reduceMul, Nat.reduceSub, Nat.reduceLeDiff, Int.reduceToNat, Int.reduceLT, Int.reduceLE, Int.reduceEq, Int.reduceNeg, Int.reduceSub, Int.reduceAdd, Int.reduceMul, ldC_rels]
  refine ⟨fun hlt => ?_, fun _ => ?_⟩
  · have hx : l[k]? = some (l[k]'(by omega)) := List.getElem?_eq_getElem (by omega)
    generalize l[k]'(by omega) = x at hx
    have c1 := Tryz.relCheck x
    rw [show relE x = 0 from h2 x (List.mem_of_getElem? hx)] at c1
    refine ⟨⟨by omega, by omega, by rw [rels_len]; omega⟩, x, hx, rfl, by simp [relD, D.one], ?_⟩
    simp only [relD, evX, evY, evZ, forall_const, implies_true, initE, stepF, D.clean, mvF, moF, tkF, shF, ariF, ciF, catF, scF, ebF, eqF, eqOk, eqPr, enF, notF, ngF, cvF, csF, csbF, lenF, lenSF, ixF, iaF, PX.slot, iaAF, faF, ldF, D.mem, stF, bxF, mkSF, boundF, fldF, ixAF, mmF2, D.plain, D.isPure, optAll, D.dull, callVF, splice, D.cells, D.one, sets, resT, D.flat, D.flat0, D.simple, Nat.reduceBNe, Nat.reduceLT, reduceIte, Nat.reduceEqDiff, Nat.reduceAdd, Nat.reduceMul, Nat.reduceSub, Nat.reduceLeDiff, Int.reduceToNat, Int.reduceLT, Int.reduceLE, Int.reduceEq, Int.reduceNeg, Int.reduceSub, Int.reduceAdd, Int.reduceMul]
    refine callF_of c1 ?_
    (refine ev ?_; try with_reducible exact trivial)
    exact ⟨by omega, ⟨k + 1, by omega, rfl⟩, by omega⟩
  · refine callF_of (Tryz.sunits Tryz.sortOk l h1) ?_
    (refine ev ?_; try with_reducible exact trivial)
    omega
/-- the units of right relations -/
theorem Tryz.succUnits (l : List Rl) (h : GoodR l) : Con Tryz.prog Tryz.L 8 [relsD l] (.tup [strsD (unitsF l), .int .i64 0]) := by
  have hc := Tryz.succCheck l h
  have hu := Tryz.sunits Tryz.sortOk l h.1
  refine rule8 Tryz.hL rfl rfl rfl ?_
  (simp only [pc8, rs8, oU, oC]; refine ev ?_; try with_reducible exact trivial)
  refine callF_of hc ?_
  (refine ev ?_; try with_reducible exact trivial)
  refine callF_of hu ?_
  (refine ev ?_; try with_reducible exact trivial)
  rfl
end Go.Proofs

/-
  SUCCESSION: the graph as data; distances. Own work.
-/
namespace Go.Tp
open Go.Pi
def arD (x : Ar) : List D := [.int .i64 x.i, .int .i64 x.a, .int .i64 x.b]
abbrev arsD (l : List Ar) : List D := rows arD l
theorem arD_len (x : Ar) : (arD x).length = 3 := rfl
theorem arsD_len (l : List Ar) : (arsD l).length = l.length * 3 := rows_length arD_len l
/-- the arcs that lead from a unit -/
def nxt (arcs : List Ar) (j : Nat) : List Ar := arcs.filter fun x => x.a == j
def nxD (n : Nat) (arcs : List Ar) : List D := (List.range n).map fun j => .sl (nxt arcs j).length (arsD (nxt arcs j))
def gD (us : List (List UInt8)) (arcs : List Ar) : D := .pt [strsD us, .opq, .sl arcs.length (arsD arcs), .sl us.length (nxD us.length arcs)]
end Go.Tp
namespace Go.Proofs
open Go Go.Pi Go.RowKit Go.Tp
theorem getD_gz {l : List Int} {j : Nat} (h : j < l.length) : l.getD j 0 = gz l j := by
  unfold gz; rw [List.getD_eq_getElem?_getD, List.getD_eq_getElem?_getD, List.getElem?_eq_getElem h]; rfl
def mE (n : Nat) (E : Env) : Nat := (match lk E 7 with | .own _ _ _ cs => (cs.map fun d => match d with | .int _ v => wt n v | _ => 0).sum | _ => 0) + (match lk E 8 with | .bool true => 1 | _ => 0)
theorem mE_ints (n : Nat) (o : List Int) : ((ints .i64 o).map fun d => match d with | .int _ v => wt n v | _ => 0).sum = msr n o := by
  unfold msr ints; rw [List.map_map]; rfl
theorem mE_at (n m e : Nat) (X Y : D) (o : List Int) (b : Bool) (r : Env) : mE n ((0, X) :: (2, Y) :: (7, D.own true e m (ints .i64 o)) :: (8, .bool b) :: r) = msr n o + (if b then 1 else 0) := by
  show ((ints .i64 o).map (fun d => match d with | .int _ v => wt n v | _ => 0)).sum + (match D.bool b with | .bool true => 1 | _ => 0) = _
  rw [mE_ints]
  cases b <;> rfl
theorem ars_cut {l : List Ar} {k : Nat} {x : Ar} (h : l[k]? = some x) : List.take 3 (List.drop (k * 3) (arsD l)) = arD x := by
  have e : List.drop (k * 3) (arsD l) = arsD (l.drop k) := by
    clear h
    induction l generalizing k with
    | nil => simp [arsD, rows]
    | cons y l ih =>
      cases k with
      | zero => simp
      | succ k => rw [show (k + 1) * 3 = k * 3 + 3 by omega]; exact ih (k := k)
  rw [e, dropT h]; rfl
theorem ldC_ars {l : List Ar} {k t : Nat} {N : EP} {E : Env} : ldC true 3 (List.take 3 (List.drop (k * 3) (arsD l))) t N E = (∃ x, l[k]? = some x ∧ N (st1 E t (.agg (arD x)))) := by
  cases h : l[k]? with
  | none =>
    have hk : l.length ≤ k := by simpa using h
    rw [List.drop_eq_nil_of_le (by rw [arsD_len]; omega)]
    simp [ldC, ofCells]
  | some x =>
    rw [ars_cut h]
    simp [ldC, ofCells, arD]
set_option maxRecDepth 100000 in
set_option maxHeartbeats 8000000 in
theorem Tryz.sdist (hrep : ∀ k : Nat, k ≤ 1000 → Con Tryz.prog Tryz.L 59 [.sl 1 [.int .i64 (-1)], .int .i64 k] (.own true 3 k (ints .i64 (List.replicate k (-1))))) (us : List (List UInt8)) (arcs : List Ar) (tg : Nat) (above : Int) (hu : us.length ≤ 60) (hl : arcs.length ≤ 200) (ha : ∀ x ∈ arcs, ArOk us.length x ∧ x.i ≤ 200) (ht : tg < us.length) :
    Con Tryz.prog Tryz.L 29 [gD us arcs, .int .i64 tg, .int .i64 above] (.own true 3 us.length (ints .i64 (distF us.length arcs tg above))) := by
  refine rule29 Tryz.hL rfl rfl rfl ?_
  simp only [gD, pc29, rs29, oU, oC, evX, evY, evZ, forall_const, implies_true, initE, stepF, D.clean, mvF, moF, tkF, shF, ariF, ciF, catF, scF, ebF, eqF, eqOk, eqPr, enF, notF, ngF, cvF, csF, csbF, lenF, lenSF, ixF, iaF, PX.slot, iaAF, faF, ldF, D.mem, stF, bxF, mkSF, boundF, fldF, ixAF, mmF2, D.plain, D.isPure, optAll, D.dull, callVF, splice, D.cells, D.one, sets, resT, D.flat, D.flat0, D.simple, Nat.reduceBNe, Nat.reduceLT, reduceIte, Nat.reduceEqDiff, Nat.reduceAdd, Nat.reduceMul, Nat.reduceSub, Nat.reduceLeDiff, Int.reduceToNat, Int.reduceLT, Int.reduceLE, Int.reduceEq, Int.reduceNeg, Int.reduceSub, Int.reduceAdd, Int.reduceMul, stG_own]
  refine callF_of (hrep us.length (by omega)) ?_
  (refine ev ?_; try with_reducible exact trivial)
  have h1 : (List.replicate us.length (-1 : Int)).length = us.length := by simp
  refine ⟨⟨by omega, by omega, by omega⟩, by omega, ?_⟩
  have hok := one0_ok ht
  have hms := msr_le hok
  refine loopF_of (fun E => ∃ (o : List Int) (b : Bool) (ext : Env), DOk us.length o ∧ ((b = true ∧ ∃ f, msr us.length o < f ∧ distG above arcs f o = distF us.length arcs tg above) ∨ (b = false ∧ o = distF us.length arcs tg above)) ∧
    (ext = [] ∨ ∃ bb : Bool, ext = [(25, .sl arcs.length (arsD arcs)), (26, .int .i64 arcs.length), (27, .int .i64 arcs.length), (28, .bool bb)]) ∧
    E = [(0, gD us arcs), (2, D.int IntKind.i64 above), (7, D.own true 3 us.length (ints .i64 o)), (8, .bool b)] ++ ext) (mE us.length) ⟨one0 us.length tg, true, [], hok, .inl ⟨rfl, _, Nat.lt_succ_of_le hms, rfl⟩, .inl rfl, rfl⟩ ?_
  rintro _ ⟨o, b, ext, ho, hb, hext, rfl⟩
  rcases hb with ⟨rfl, f, hf, hd⟩ | ⟨rfl, rfl⟩
  · obtain ⟨f, rfl⟩ : ∃ g, f = g + 1 := ⟨f - 1, by omega⟩
    obtain ⟨p1, p2⟩ := pass_ok (above := above) (fun x hx => (ha x hx).1) ho
    have p3 := (fold_ok (above := above) arcs (o, false) (fun x hx => (ha x hx).1) ho).2.1
    have hd' : (if (passF above arcs o).2 then distG above arcs f (passF above arcs o).1 else (passF above arcs o).1) = distF us.length arcs tg above := hd
    rcases hext with rfl | ⟨bb, rfl⟩
    all_goals
      simp only [gD, List.cons_append, List.nil_append, evX, evY, evZ, forall_const, implies_true, initE, stepF, D.clean, mvF, moF, tkF, shF, ariF, ciF, catF, scF, ebF, eqF, eqOk, eqPr, enF, notF, ngF, cvF, csF, csbF, lenF, lenSF, ixF, iaF, PX.slot, iaAF, faF, ldF, D.mem, stF, bxF, mkSF, boundF, fldF, ixAF, mmF2, D.plain, D.isPure, optAll, D.dull, callVF, splice, D.cells, D.one, sets, resT, D.flat, D.flat0, D.simple, Nat.reduceBNe, Nat.reduceLT, reduceIte, Nat.reduceEqDiff, Nat.reduceAdd, Nat.reduceMul, Nat.reduceSub, Nat.reduceLeDiff, Int.reduceToNat, Int.reduceLT, Int.reduceLE, Int.reduceEq, Int.reduceNeg, Int.reduceSub, Int.reduceAdd, Int.reduceMul, stG_own]
      refine loopF_of (fun E => ∃ (k : Nat) (st : List Int × Bool), k ≤ arcs.length ∧ DOk us.length st.1 ∧ (arcs.drop k).foldl (rlx1 above) st = passF above arcs o ∧ E = [(0, gD us arcs), (2, D.int IntKind.i64 above), (7, D.own true 3 us.length (ints .i64 st.1)), (8, .bool st.2), (25, .sl arcs.length (arsD arcs)), (26, .int .i64 arcs.length), (27, .int .i64 k)])
        (fun E => match lk E 27 with | .int _ i => arcs.length - i.toNat | _ => 0) ⟨0, (o, false), Nat.zero_le _, ho, rfl, rfl⟩ ?_
      rintro _ ⟨k, ⟨o', b'⟩, hk, ho', hfo, rfl⟩
      simp only [gD, evX, evY, evZ, forall_const, implies_true, initE, stepF, D.clean, mvF, moF, tkF, shF, ariF, ciF, catF, scF, ebF, eqF, eqOk, eqPr, enF, notF, ngF, cvF, csF, csbF, lenF, lenSF, ixF, iaF, PX.slot, iaAF, faF, ldF, D.mem, stF, bxF, mkSF, boundF, fldF, ixAF, mmF2, D.plain, D.isPure, optAll, D.dull, callVF, splice, D.cells, D.one, sets, resT, D.flat, D.flat0, D.simple, Nat.reduceBNe, Nat.reduceLT, reduceIte, Nat.reduceEqDiff, Nat.reduceAdd, Nat.reduceMul, Nat.reduceSub, Nat.reduceLeDiff, Int.reduceToNat, Int.reduceLT, Int.reduceLE, Int.reduceEq, Int.reduceNeg, Int.reduceSub, Int.reduceAdd, Int.reduceMul, stG_own, ldC_ars]
      refine ⟨fun hlt => ?_, fun hge => ?_⟩
      · have hx : arcs[k]? = some (arcs[k]'(by omega)) := List.getElem?_eq_getElem (by omega)
        generalize arcs[k]'(by omega) = x at hx
        obtain ⟨⟨ha1, ha2⟩, ha3⟩ := ha x (List.mem_of_getElem? hx)
        have hlen := ho'.len
        simp only at hlen
        have hfo2 : (arcs.drop (k + 1)).foldl (rlx1 above) (rlx1 above (o', b') x) = passF above arcs o := by rw [dropT hx] at hfo; exact hfo
        have hr1 := rlx1_ok (above := above) (st := (o', b')) ho' ⟨ha1, ha2⟩
        have hga := getD_gz (l := o') (j := x.a) (by omega)
        have hgb := getD_gz (l := o') (j := x.b) (by omega)
        have hhi := ho'.hi x.b ha2
        have hcl := cnt_le o'
        refine ⟨⟨by omega, by omega, by rw [arsD_len]; omega⟩, x, hx, rfl, by simp [arD, D.one], ?_⟩
        simp only [arD, evX, evY, evZ, forall_const, implies_true, initE, stepF, D.clean, mvF, moF, tkF, shF, ariF, ciF, catF, scF, ebF, eqF, eqOk, eqPr, enF, notF, ngF, cvF, csF, csbF, lenF, lenSF, ixF, iaF, PX.slot, iaAF, faF, ldF, D.mem, stF, bxF, mkSF, boundF, fldF, ixAF, mmF2, D.plain, D.isPure, optAll, D.dull, callVF, splice, D.cells, D.one, sets, resT, D.flat, D.flat0, D.simple, Nat.reduceBNe, Nat.reduceLT, reduceIte, Nat.reduceEqDiff, Nat.reduceAdd, Nat.reduceMul, Nat.reduceSub, Nat.reduceLeDiff, Int.reduceToNat, Int.reduceLT, Int.reduceLE, Int.reduceEq, Int.reduceNeg, Int.reduceSub, Int.reduceAdd, Int.reduceMul, stG_own]
        simp only [hga, hgb]
        have fA : ¬rlxP above o' x → (-9223372036854775808 ≤ (k : Int) + 1 ∧ (k : Int) + 1 ≤ 9223372036854775807) ∧ (∃ (k_1 : Nat) (st : List Int × Bool), k_1 ≤ arcs.length ∧ DOk us.length st.1 ∧ List.foldl (rlx1 above) st (List.drop k_1 arcs) = passF above arcs o ∧ ((7, D.own true 3 us.length (ints .i64 o')) : Nat × D) = (7, D.own true 3 us.length (ints .i64 st.1)) ∧ ((8, D.bool b') : Nat × D) = (8, D.bool st.2) ∧ ((27, D.int .i64 ((k : Int) + 1)) : Nat × D) = (27, D.int .i64 k_1)) ∧ arcs.length - ((k : Int) + 1).toNat < arcs.length - k :=
          fun h => ⟨by omega, ⟨k + 1, (o', b'), by omega, ho', by unfold rlx1 at hfo2; rwa [if_neg h] at hfo2, rfl, rfl, rfl⟩, by omega⟩
        have fB : rlxP above o' x → (-9223372036854775808 ≤ (k : Int) + 1 ∧ (k : Int) + 1 ≤ 9223372036854775807) ∧ (∃ (k_1 : Nat) (st : List Int × Bool), k_1 ≤ arcs.length ∧ DOk us.length st.1 ∧ List.foldl (rlx1 above) st (List.drop k_1 arcs) = passF above arcs o ∧ ((7, D.own true 3 us.length (ints .i64 (o'.set x.a (gz o' x.b + 1)))) : Nat × D) = (7, D.own true 3 us.length (ints .i64 st.1)) ∧ ((8, D.bool true) : Nat × D) = (8, D.bool st.2) ∧ ((27, D.int .i64 ((k : Int) + 1)) : Nat × D) = (27, D.int .i64 k_1)) ∧ arcs.length - ((k : Int) + 1).toNat < arcs.length - k :=
          fun h => by
            have hr1' := hr1.1
            unfold rlx1 at hfo2 hr1'
            rw [if_pos h] at hfo2 hr1'
            exact ⟨by omega, ⟨k + 1, (o'.set x.a (gz o' x.b + 1), true), by omega, hr1', hfo2, rfl, rfl, rfl⟩, by omega⟩
        simp only at hhi
        clear hfo hfo2 hr1 hd hd' p1 p2 p3 hok hms hf ho ho' ha hx hga hgb
        repeat' first
          | intro _
          | exact fA (by unfold rlxP; omega)
          | exact fB (by unfold rlxP; omega)
          | omega
          | apply And.intro
      · obtain rfl : k = arcs.length := by omega
        rw [List.drop_length] at hfo
        have hfo' : (o', b') = passF above arcs o := hfo
        have e1 : (passF above arcs o).1 = o' := by rw [← hfo']
        have e2 : (passF above arcs o).2 = b' := by rw [← hfo']
        have p3' : msr us.length (passF above arcs o).1 ≤ msr us.length o := p3
        rw [e1, e2] at hd' p2
        rw [e1] at p3'
        rw [mE_at, mE_at]
        cases b' with
        | true =>
          have := p2 rfl
          exact ⟨⟨o', true, _, ho', .inl ⟨rfl, f, by omega, hd'⟩, .inr ⟨_, rfl⟩, rfl, rfl, rfl⟩, by simp; omega⟩
        | false => exact ⟨⟨o', false, _, ho', .inr ⟨rfl, hd'⟩, .inr ⟨_, rfl⟩, rfl, rfl, rfl⟩, by simp; omega⟩
  · rcases hext with rfl | ⟨bb, rfl⟩
    all_goals
      simp only [gD, List.cons_append, List.nil_append, evX, evY, evZ, forall_const, implies_true, initE, stepF, D.clean, mvF, moF, tkF, shF, ariF, ciF, catF, scF, ebF, eqF, eqOk, eqPr, enF, notF, ngF, cvF, csF, csbF, lenF, lenSF, ixF, iaF, PX.slot, iaAF, faF, ldF, D.mem, stF, bxF, mkSF, boundF, fldF, ixAF, mmF2, D.plain, D.isPure, optAll, D.dull, callVF, splice, D.cells, D.one, sets, resT, D.flat, D.flat0, D.simple, Nat.reduceBNe, Nat.reduceLT, reduceIte, Nat.reduceEqDiff, Nat.reduceAdd, Nat.reduceMul, Nat.reduceSub, Nat.reduceLeDiff, Int.reduceToNat, Int.reduceLT, Int.reduceLE, Int.reduceEq, Int.reduceNeg, Int.reduceSub, Int.reduceAdd, Int.reduceMul, stG_own]
end Go.Proofs
