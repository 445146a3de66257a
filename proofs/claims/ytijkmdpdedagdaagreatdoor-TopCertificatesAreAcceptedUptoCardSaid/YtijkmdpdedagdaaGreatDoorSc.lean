/-
  SUCCESSION: names of units, numbers of arcs that lead to each. Own work.
-/
import Derived.Test.YtijkmdpdedagdaaGreatDoorPj
import Derived.Test.YtijkmdpdedagdaaGreatDoorSa
import Derived.Test.YtijkmdpdedagdaaGreatDoorSb
import Derived.Test.YtijkmdpdedagdaaGreatDoorEe
set_option linter.unusedVariables false
set_option linter.unusedSimpArgs false
namespace Go.Proofs
open Go Go.Pi Go.RowKit Go.Tp
theorem ldC_strL {l : List (List UInt8)} {k t : Nat} {N : EP} {E : Env} : ldC false 1 (List.take 1 (List.drop k (l.map .str))) t N E = (k < l.length ∧ N (st1 E t (.str (l[k]?.getD [])))) := by
  unfold ldC
  cases h : l[k]? with
  | none =>
    have hk : l.length ≤ k := by simpa using h
    rw [List.drop_eq_nil_of_le (by simpa using hk)]; simp [ofCells]; omega
  | some x =>
    have hk := (List.getElem?_eq_some_iff.1 h).1
    have e : List.drop k (l.map D.str) = D.str x :: (l.drop (k + 1)).map .str := by rw [← List.map_drop, dropT h]; rfl
    rw [e]
    simp [ofCells, D.one, hk, h]
theorem Tryz.sdistances (us : List (List UInt8)) (arcs : List Ar) (tg : Nat) (above : Int) (hu : us.length ≤ 60) (hl : arcs.length ≤ 200) (ha : ∀ x ∈ arcs, ArOk us.length x ∧ x.i ≤ 200) (ht : tg < us.length) :
    Con Tryz.prog Tryz.L 29 [gD us arcs, .int .i64 tg, .int .i64 above] (.own true 3 us.length (ints .i64 (distF us.length arcs tg above))) :=
  Tryz.sdist Tryz.irepeat1 us arcs tg above hu hl ha ht
set_option maxRecDepth 100000 in
set_option maxHeartbeats 8000000 in
theorem Tryz.sbefore (us : List (List UInt8)) (arcs : List Ar) (hu : us.length ≤ 60) (hl : arcs.length ≤ 200) (ha : ∀ x ∈ arcs, ArOk us.length x ∧ x.i ≤ 200) :
    Con Tryz.prog Tryz.L 35 [gD us arcs] (.own true 3 us.length (ints .i64 (befF us.length arcs))) := by
  refine rule35 Tryz.hL rfl rfl rfl ?_
  simp only [gD, pc35, rs35, oU, oC, evX, evY, evZ, forall_const, implies_true, initE, stepF, D.clean, mvF, moF, tkF, shF, ariF, ciF, catF, scF, ebF, eqF, eqOk, eqPr, enF, notF, ngF, cvF, csF, csbF, lenF, lenSF, ixF, iaF, PX.slot, iaAF, faF, ldF, D.mem, stF, bxF, mkSF, boundF, fldF, ixAF, mmF2, D.plain, D.isPure, optAll, D.dull, callVF, splice, D.cells, D.one, sets, resT, D.flat, D.flat0, D.simple, Nat.reduceBNe, Nat.reduceLT, reduceIte, Nat.reduceEqDiff, Nat.reduceAdd, Nat.reduceMul, Nat.reduceSub, Nat.reduceLeDiff, Int.reduceToNat, Int.reduceLT, Int.reduceLE, Int.reduceEq, Int.reduceNeg, Int.reduceSub, Int.reduceAdd, Int.reduceMul, stG_own]
  have e0 : (List.replicate us.length [D.int IntKind.i64 0]).flatten = ints .i64 (List.replicate us.length 0) := by
    generalize us.length = n
    induction n with
    | zero => rfl
    | succ n ih => rw [List.replicate_succ, List.flatten_cons, ih]; rfl
  refine ⟨⟨by omega, by omega, by omega, by omega⟩, ?_⟩
  rw [e0]
  refine loopF_of (fun E => ∃ (k : Nat) (o : List Int), k ≤ arcs.length ∧ o.length = us.length ∧ (∀ j, j < us.length → 0 ≤ gz o j ∧ gz o j ≤ k) ∧ (arcs.drop k).foldl (fun o x => o.set x.b (gz o x.b + 1)) o = befF us.length arcs ∧ E = [(3, D.own true 3 us.length (ints .i64 o)), (15, D.sl arcs.length (arsD arcs)), (16, D.int IntKind.i64 arcs.length), (17, D.int IntKind.i64 k)])
    (fun E => match lk E 17 with | .int _ i => arcs.length - i.toNat | _ => 0) ⟨0, List.replicate us.length 0, Nat.zero_le _, by simp, fun j hj => by
      have : gz (List.replicate us.length (0 : Int)) j = 0 := by unfold gz; rw [List.getD_eq_getElem?_getD, List.getElem?_replicate, if_pos hj]; rfl
      rw [this]; omega, rfl, rfl⟩ ?_
  rintro _ ⟨k, o, hk, hlen, hb, hfo, rfl⟩
  simp only [evX, evY, evZ, forall_const, implies_true, initE, stepF, D.clean, mvF, moF, tkF, shF, ariF, ciF, catF, scF, ebF, eqF, eqOk, eqPr, enF, notF, ngF, cvF, csF, csbF, lenF, lenSF, ixF, iaF, PX.slot, iaAF, faF, ldF, D.mem, stF, bxF, mkSF, boundF, fldF, ixAF, mmF2, D.plain, D.isPure, optAll, D.dull, callVF, splice, D.cells, D.one, sets, resT, D.flat, D.flat0, D.simple, Nat.reduceBNe, Nat.reduceLT, reduceIte, Nat.reduceEqDiff, Nat.reduceAdd, Nat.reduceMul, Nat.reduceSub, Nat.reduceLeDiff, Int.reduceToNat, Int.reduceLT, Int.reduceLE, Int.reduceEq, Int.reduceNeg, Int.reduceSub, Int.reduceAdd, Int.reduceMul, stG_own, ldC_ars]
  refine ⟨fun hlt => ?_, fun hge => ?_⟩
  · have hx : arcs[k]? = some (arcs[k]'(by omega)) := List.getElem?_eq_getElem (by omega)
    generalize arcs[k]'(by omega) = x at hx
    obtain ⟨⟨ha1, ha2⟩, ha3⟩ := ha x (List.mem_of_getElem? hx)
    have hgb := getD_gz (l := o) (j := x.b) (by omega)
    have hbb := hb x.b ha2
    refine ⟨⟨by omega, by omega, by rw [arsD_len]; omega⟩, x, hx, rfl, by simp [arD, D.one], ?_⟩
    simp only [arD, evX, evY, evZ, forall_const, implies_true, initE, stepF, D.clean, mvF, moF, tkF, shF, ariF, ciF, catF, scF, ebF, eqF, eqOk, eqPr, enF, notF, ngF, cvF, csF, csbF, lenF, lenSF, ixF, iaF, PX.slot, iaAF, faF, ldF, D.mem, stF, bxF, mkSF, boundF, fldF, ixAF, mmF2, D.plain, D.isPure, optAll, D.dull, callVF, splice, D.cells, D.one, sets, resT, D.flat, D.flat0, D.simple, Nat.reduceBNe, Nat.reduceLT, reduceIte, Nat.reduceEqDiff, Nat.reduceAdd, Nat.reduceMul, Nat.reduceSub, Nat.reduceLeDiff, Int.reduceToNat, Int.reduceLT, Int.reduceLE, Int.reduceEq, Int.reduceNeg, Int.reduceSub, Int.reduceAdd, Int.reduceMul, stG_own]
    simp only [hgb]
    refine ⟨⟨by omega, by omega, by omega⟩, by omega, ⟨by omega, by omega⟩, ⟨by omega, by omega, by omega⟩, by omega, ⟨by omega, by omega⟩, ⟨k + 1, o.set x.b (gz o x.b + 1), by omega, by rw [List.length_set]; exact hlen, fun j hj => ?_, ?_, rfl, rfl⟩, by omega⟩
    · rw [gz_set (by omega)]
      have := hb j hj
      split <;> omega
    · rw [dropT hx] at hfo; exact hfo
  · obtain rfl : k = arcs.length := by omega
    rw [List.drop_length] at hfo
    rw [show o = befF us.length arcs from hfo]
set_option maxRecDepth 100000 in
set_option maxHeartbeats 8000000 in
theorem Tryz.sname (us : List (List UInt8)) (arcs : List Ar) (l : List Nat) (hu : us.length ≤ 60) (hl : l.length ≤ 200) (ha : ∀ x ∈ l, x < us.length) :
    Con Tryz.prog Tryz.L 23 [gD us arcs, .sl l.length (ints .i64 (l.map fun x : Nat => (x : Int)))] (.own true 9 l.length (l.map fun x => .str (us[x]?.getD []))) := by
  refine rule23 Tryz.hL rfl rfl rfl ?_
  simp only [gD, pc23, rs23, oU, oC, evX, evY, evZ, forall_const, implies_true, initE, stepF, D.clean, mvF, moF, tkF, shF, ariF, ciF, catF, scF, ebF, eqF, eqOk, eqPr, enF, notF, ngF, cvF, csF, csbF, lenF, lenSF, ixF, iaF, PX.slot, iaAF, faF, ldF, D.mem, stF, bxF, mkSF, boundF, fldF, ixAF, mmF2, D.plain, D.isPure, optAll, D.dull, callVF, splice, D.cells, D.one, sets, resT, D.flat, D.flat0, D.simple, Nat.reduceBNe, Nat.reduceLT, reduceIte, Nat.reduceEqDiff, Nat.reduceAdd, Nat.reduceMul, Nat.reduceSub, Nat.reduceLeDiff, Int.reduceToNat, Int.reduceLT, Int.reduceLE, Int.reduceEq, Int.reduceNeg, Int.reduceSub, Int.reduceAdd, Int.reduceMul, stG_own]
  refine loopF_of (fun E => ∃ k : Nat, k ≤ l.length ∧ E = [(0, gD us arcs), (5, D.own true 9 (l.take k).length ((l.take k).map fun x => D.str (us[x]?.getD []))), (8, D.sl l.length (ints .i64 (l.map fun x : Nat => (x : Int)))), (9, D.int IntKind.i64 l.length), (10, D.int IntKind.i64 k)])
    (fun E => match lk E 10 with | .int _ i => l.length - i.toNat | _ => 0) ⟨0, Nat.zero_le _, rfl⟩ ?_
  rintro _ ⟨k, hk, rfl⟩
  simp only [gD, evX, evY, evZ, forall_const, implies_true, initE, stepF, D.clean, mvF, moF, tkF, shF, ariF, ciF, catF, scF, ebF, eqF, eqOk, eqPr, enF, notF, ngF, cvF, csF, csbF, lenF, lenSF, ixF, iaF, PX.slot, iaAF, faF, ldF, D.mem, stF, bxF, mkSF, boundF, fldF, ixAF, mmF2, D.plain, D.isPure, optAll, D.dull, callVF, splice, D.cells, D.one, sets, resT, D.flat, D.flat0, D.simple, Nat.reduceBNe, Nat.reduceLT, reduceIte, Nat.reduceEqDiff, Nat.reduceAdd, Nat.reduceMul, Nat.reduceSub, Nat.reduceLeDiff, Int.reduceToNat, Int.reduceLT, Int.reduceLE, Int.reduceEq, Int.reduceNeg, Int.reduceSub, Int.reduceAdd, Int.reduceMul, stG_own, ldC_strL]
  refine ⟨fun hlt => ?_, fun hge => ?_⟩
  · have hx : l[k]? = some (l[k]'(by omega)) := List.getElem?_eq_getElem (by omega)
    generalize l[k]'(by omega) = x at hx
    have hlx := ha x (List.mem_of_getElem? hx)
    have hm : (l.map fun x : Nat => (x : Int)).getD k 0 = (x : Int) := by rw [List.getD_eq_getElem?_getD, List.getElem?_map, hx]; rfl
    have hlk : (l.take k).length = k := by rw [List.length_take]; omega
    have htk : l.take (k + 1) = l.take k ++ [x] := by rw [List.take_add_one, hx]; rfl
    rw [hm, List.length_map, List.length_map, hlk]
    simp only [Int.toNat_natCast]
    refine ⟨⟨by omega, by omega, by omega⟩, by omega, ⟨by omega, by omega, by omega⟩, by omega, by omega, by omega, ⟨by omega, by omega⟩, ⟨k + 1, by omega, ?_⟩, by omega⟩
    rw [htk]
    simp [hlk]
  · obtain rfl : k = l.length := by omega
    rw [List.take_length]
end Go.Proofs

/-
  SUCCESSION: the arcs of a list, the graph read as data; merging the ways through a region. Own work.
-/
namespace Go.Tp
open Go.Pi
def arcAt (us : List (List UInt8)) (i : Nat) (x : Rl) : Ar := ⟨i, us.idxOf x.l, us.idxOf x.u⟩
/-- the arcs of the first relations -/
def arcsK (us : List (List UInt8)) (l : List Rl) : Nat → List Ar
  | 0 => []
  | k + 1 => match l[k]? with
    | some x => if x.k = 4 then arcsK us l k else arcsK us l k ++ [arcAt us k x]
    | none => arcsK us l k
abbrev arcsF (l : List Rl) : List Ar := arcsK (unitsF l) l l.length
theorem arcsK_against {us : List (List UInt8)} {l : List Rl} {k : Nat} {x : Rl} (h : l[k]? = some x) (hx : x.k = 4) : arcsK us l (k + 1) = arcsK us l k := by
  show (match l[k]? with | some x => _ | none => _) = _
  rw [h]; simp [hx]
theorem arcsK_arc {us : List (List UInt8)} {l : List Rl} {k : Nat} {x : Rl} (h : l[k]? = some x) (hx : x.k ≠ 4) : arcsK us l (k + 1) = arcsK us l k ++ [arcAt us k x] := by
  show (match l[k]? with | some x => _ | none => _) = _
  rw [h]; simp [hx]
theorem arcsK_len {us : List (List UInt8)} {l : List Rl} : ∀ k, (arcsK us l k).length ≤ k
  | 0 => Nat.le_refl _
  | k + 1 => by
    have ih := arcsK_len (us := us) (l := l) k
    unfold arcsK
    split
    · split
      · omega
      · rw [List.length_append, List.length_singleton]; omega
    · omega
/-- the numbers of the first k units -/
def numK (us : List (List UInt8)) (k : Nat) (s : List UInt8) : Option Int := if s ∈ us.take k then some (us.idxOf s : Nat) else none
theorem numK_zero (us : List (List UInt8)) : numK us 0 = fun _ => none := by funext s; simp [numK]
theorem numK_succ {us : List (List UInt8)} {k : Nat} {x : List UInt8} (hn : us.Nodup) (h : us[k]? = some x) : (fun z => if z = x then some (k : Int) else numK us k z) = numK us (k + 1) := by
  funext z
  obtain ⟨hk, rfl⟩ := List.getElem?_eq_some_iff.1 h
  unfold numK
  rw [List.take_add_one, h]
  by_cases hz : z = us[k]
  · rw [if_pos hz, if_pos (List.mem_append_right _ (by simp [hz])), hz, hn.idxOf_getElem k hk]
  · rw [if_neg hz]
    have : z ∈ us.take k ++ (some us[k]).toList ↔ z ∈ us.take k := by rw [List.mem_append]; exact ⟨fun e => e.elim id (fun e => absurd (by simpa using e) hz), .inl⟩
    simp only [this]
theorem numK_all {us : List (List UInt8)} {s : List UInt8} (h : s ∈ us) : (numK us us.length s).getD 0 = (us.idxOf s : Nat) := by
  unfold numK; rw [List.take_length, if_pos h]; rfl
/-- the cells of a list of texts that was handed in -/
theorem str_cells {S : Nat → Nat → Prop} {W : World} {v : Value} {l : List (List UInt8)} (h : Rep S W (strsD l) v) :
    ∃ ad cap, v = .slice ad l.length cap ∧ ∀ j x, l[j]? = some x → ∃ b off, ad = some ⟨b, off, none⟩ ∧ S b (off + j) ∧ W.cell? ⟨b, off + j, none⟩ = some (.string ⟨x.toArray⟩) ∧ x.length ≤ maxLen := by
  generalize hd : strsD l = d at h
  cases h with
  | sl0 a cap hc =>
    injection hd with h1 h2
    obtain rfl : l = [] := List.length_eq_zero_iff.1 h1
    exact ⟨a, cap, rfl, fun j x hj => by simp at hj⟩
  | slN =>
    injection hd with h1 h2
    obtain rfl : l = [] := List.length_eq_zero_iff.1 h1
    cases h2
  | sl n ds b off cap vs hl' h1 hn hc hr h =>
    injection hd with e1 e2
    subst e1; subst e2
    refine ⟨some ⟨b, off, none⟩, cap, rfl, fun j x hj => ⟨b, off, rfl, ?_⟩⟩
    have c1 : (l.map D.str)[j]? = some (.str x) := by rw [List.getElem?_map, hj]; rfl
    obtain ⟨u1, a1, b1⟩ := (show ∃ u, vs[j]? = some u ∧ Rep S W (.str x) u from Reps.get (S := S) (w := W) ⟨hl', h⟩ c1)
    obtain ⟨rfl, l2⟩ := b1.str_inv
    exact ⟨(hr j _ a1).1, (hr j _ a1).2, l2⟩
  | _ => cases hd
/-- an own row, read -/
theorem rep_ownG {W : World} {S : Nat → Nat → Prop} {base e sz n : Nat} {v : Value} {xs : List Value} {ds : List D} (h : W.ownsRow base e sz v n xs) (hl : ds.length = xs.length) (ho : ∀ d ∈ ds, d.one = true) (hr : ∀ (i : Nat) (d : D) (u : Value), ds[i]? = some d → xs[i]? = some u → Rep S W d u) (hS : ∀ b j, base ≤ b → b < W.heap.size → S b j) : Rep S W (.sl n ds) v := by
  have hx := h.1
  rcases h.2 with ⟨rfl, h0⟩ | ⟨b, cap, cur, rfl, hbg, hg, hn, hc, _, _⟩
  · subst h0
    have : ds = [] := List.length_eq_zero_iff.1 (by omega)
    subst this
    exact .sl0 none 0 (Nat.zero_le _)
  · refine .sl _ ds b 0 cap xs hl ho hn hc (fun i u hu => ⟨hS b _ hbg (Array.getElem?_eq_some_iff.1 hg).1, ?_⟩) hr
    have hlt := (List.getElem?_eq_some_iff.1 hu).1
    rw [Nat.zero_add, h.cellAt i (by omega)]; exact hu
def arN (l : List Ar) : List Int := l.flatMap fun x => [(x.i : Int), x.a, x.b]
theorem arsD_N (l : List Ar) : arsD l = (arN l).map (D.int .i64) := by
  induction l with
  | nil => rfl
  | cons x l ih => show _ :: _ :: _ :: arsD l = _ :: _ :: _ :: (arN l).map _; rw [ih]
theorem arsC_N (l : List Ar) : arsC l = (arN l).map (Value.int .i64) := by
  induction l with
  | nil => rfl
  | cons x l ih => show _ :: _ :: _ :: arsC l = _ :: _ :: _ :: (arN l).map _; rw [ih]
theorem rep_ars {W : World} {S : Nat → Nat → Prop} {base e : Nat} {v : Value} {l : List Ar} (h : W.ownsRow base e 3 v l.length (arsC l)) (hS : ∀ b j, base ≤ b → b < W.heap.size → S b j) : Rep S W (.sl l.length (arsD l)) v := by
  refine rep_ownG h (by rw [arsD_N, arsC_N]; simp) (fun d hd => ?_) (fun i d u hd hu => ?_) hS
  · rw [arsD_N] at hd
    obtain ⟨x, _, rfl⟩ := List.mem_map.1 hd
    rfl
  · rw [arsD_N, List.getElem?_map] at hd
    rw [arsC_N, List.getElem?_map] at hu
    cases hx : (arN l)[i]? with
    | none => rw [hx] at hd; cases hd
    | some y => rw [hx] at hd hu; cases hd; cases hu; exact .int _ _
/-- the graph, read -/
theorem rep_graph {P : Program} {kS kI eA eN eG : Nat} {w0 W : World} {sB nB mB n : Nat} {vn va : Value} {vs : List Value} {us : List (List UInt8)} {f : List UInt8 → Option Int} {arcs : List Ar} {S : Nat → Nat → Prop} (h : GraI P kS kI eA eN eG w0 W sB nB mB n vn va vs us f arcs ((List.range us.length).map (nxt arcs))) (hu : us.length ≤ 60) (hn : Rep S W (strsD us) vn) (hS : ∀ b j, w0.heap.size ≤ b → b < W.heap.size → S b j) : Rep S W (gD us arcs) (.pointer (some ⟨sB, 0, none⟩)) := by
  have hone : ∃ a c, vn = .slice a us.length c := by obtain ⟨a, c, rfl, _⟩ := str_cells hn; exact ⟨a, c, rfl⟩
  refine .pt [strsD us, .opq, .sl arcs.length (arsD arcs), .sl us.length (nxD us.length arcs)] sB 0 [vn, .map (some mB), va, .slice (some ⟨nB, 0, none⟩) us.length us.length] rfl (by simp [D.one]) (fun i u hi => ⟨hS _ _ h.ls h.sbox.lt, ?_⟩) (fun i d u hd hi => ?_)
  · rw [Nat.zero_add]
    exact h.sbox.cell (by simpa using hi)
  · match i with
    | 0 => cases hd; cases hi; exact hn
    | 1 => cases hd; cases hi; exact .opq _ rfl
    | 2 => cases hd; cases hi; exact rep_ars h.aown hS
    | 3 =>
      cases hd; cases hi
      refine .sl _ (nxD us.length arcs) nB 0 us.length vs (by simp [nxD, h.len]) (fun d hd => ?_) (Nat.le_refl _) (by unfold maxLen; omega) (fun i u hi => ⟨hS _ _ h.ln h.nbox.lt, ?_⟩) (fun i d u hd hi => ?_)
      · obtain ⟨j, _, rfl⟩ := List.mem_map.1 hd
        rfl
      · rw [Nat.zero_add]
        exact h.nbox.cell (by simpa using hi)
      · have hlt := (List.getElem?_eq_some_iff.1 hi).1
        rw [h.len] at hlt
        have e1 : (List.range us.length)[i]? = some i := by rw [List.getElem?_range hlt]
        unfold nxD at hd
        rw [List.getElem?_map, e1] at hd
        cases hd
        exact rep_ars (h.each i u _ hi (by rw [List.getElem?_map, e1]; rfl)) hS
    | i + 4 => simp at hd
end Go.Tp
namespace Go.Proofs
open Go Go.Pi Go.RowKit Go.Shelf Go.Tp Go.Lib
theorem nxt_snoc (arcs : List Ar) (x : Ar) (j : Nat) : nxt (arcs ++ [x]) j = if x.a = j then nxt arcs j ++ [x] else nxt arcs j := by
  unfold nxt
  rw [List.filter_append]
  by_cases h : x.a = j <;> simp [h]
theorem nxt_set (n : Nat) (arcs : List Ar) (x : Ar) : ((List.range n).map (nxt arcs)).set x.a (nxt arcs x.a ++ [x]) = (List.range n).map (nxt (arcs ++ [x])) := by
  apply List.ext_getElem?
  intro j
  by_cases hj : j < n
  · by_cases h : x.a = j
    · subst h
      rw [List.getElem?_set_self (by simpa using hj), List.getElem?_map, List.getElem?_range hj]
      simp [nxt_snoc]
    · rw [List.getElem?_set_ne h, List.getElem?_map, List.getElem?_map, List.getElem?_range hj]
      simp [nxt_snoc, h]
  · rw [List.getElem?_eq_none (by simp; omega), List.getElem?_eq_none (by simp; omega)]
/-- all ways through a region end alike -/
theorem wp_merge {P : Program} {c : Code} {Q : Exit → Act → World → Prop} {a : Act} {w : World} (R : Act → World → Prop) (hw : Code.wp P c (fun e a w => match e with | .normal => R a w | _ => False) a w) (hk : ∀ a w, R a w → Q .normal a w) : Code.wp P c Q a w :=
  Code.wp_mono (fun e a w h => by cases e <;> first | exact hk a w h | exact h.elim) hw
theorem wp_merge3 {P : Program} {c : Code} {Q : Exit → Act → World → Prop} {a : Act} {w : World} (A : Nat → Nat → World → Act) (V : Nat → Nat → World → World) (F : Nat → Nat → World → Prop) (hw : Code.wp P c (fun e a w => match e with | .normal => ∃ g c1 w1, F g c1 w1 ∧ a = A g c1 w1 ∧ w = V g c1 w1 | _ => False) a w) (hk : ∀ g c1 w1, F g c1 w1 → Q .normal (A g c1 w1) (V g c1 w1)) : Code.wp P c Q a w :=
  Code.wp_mono (fun e a w h => by cases e <;> first | (obtain ⟨g, c1, w1, h, rfl, rfl⟩ := h; exact hk g c1 w1 h) | exact h.elim) hw
end Go.Proofs
