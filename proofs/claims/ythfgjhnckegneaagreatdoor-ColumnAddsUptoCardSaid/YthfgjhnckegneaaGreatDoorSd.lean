/-
  SEAT 22: ColumnAdds over data. Own work.
-/
import Derived.Test.YthfgjhnckegneaaGreatDoorPj
import Derived.Test.YthfgjhnckegneaaGreatDoorSc
namespace Go.Proofs
open Go Go.Pi Go.RowKit

theorem run25c : ((List.range 19).all fun a => outS (runJ tab22 1000 (.call 25 [.str (half a), .str (half 0)])) (half a)) = true := by kernel_rfl
/-- what is added in the law -/
theorem Tryz.c25w (a b : Nat) (h : a < 10 ∧ b < 10 ∨ a < 19 ∧ b = 0) : Con Tryz.prog Tryz.L 25 [.str (half a), .str (half b)] (.str (half (a + b))) := by
  rcases h with ⟨h1, h2⟩ | ⟨h1, rfl⟩
  · exact Tryz.c25b a b h1 h2
  · exact con_run Tryz.hL tab22_ok 1000 (outS_ok (all_range run25c a h1))

/-- the most, or none -/
def most (o : Option Nat) : List UInt8 := match o with
  | none => []
  | some m => half m
def addO (a b : Option Nat) : Option Nat := match a, b with
  | some x, some y => some (x + y)
  | _, _ => none
/-- the bounds as numbers of halves -/
def Rp (s : List UInt8 × List UInt8) (n : Nat) (o : Option Nat) : Prop := s.1 = half n ∧ s.2 = most o
theorem most_nil {o : Option Nat} : most o = [] ↔ o = none := by
  cases o with
  | none => simp [most]
  | some m => simp [most, half_ne]
theorem Rp.zero : Rp ([48], [48]) 0 (some 0) := ⟨rfl, rfl⟩
def small20 (o : Option Nat) : Prop := ∀ m, o = some m → m < 20
theorem Rp.step {s : List UInt8 × List UInt8} {x : Lay} {n a : Nat} {o b : Option Nat} (h : Rp s n o) (ha : x.a = half a) (hb : x.b = most b) (hn : n < 20) (h1 : a < 20) (ho : small20 o) (hb2 : small20 b) : Rp (stepT s x) (n + a) (addO o b) := by
  obtain ⟨e1, e2⟩ := h
  refine ⟨?_, ?_⟩
  · show half (valH s.1 + valH x.a) = _
    rw [e1, ha, valH_half n hn, valH_half a h1]
  · show (if s.2 = [] ∨ x.b = [] then [] else half (valH s.2 + valH x.b)) = _
    rw [e2, hb]
    cases o with
    | none => rw [if_pos (.inl rfl)]; rfl
    | some m =>
      cases b with
      | none => rw [if_pos (.inr rfl)]; rfl
      | some c =>
        rw [if_neg (by simp [most, half_ne])]
        show half (valH (half m) + valH (half c)) = _
        rw [valH_half m (ho m rfl), valH_half c (hb2 c rfl)]; rfl

/-- a layer's bounds -/
theorem ColOk.bounds {l : List Lay} (h : ColOk l) {x : Lay} (hx : x ∈ l) : ∃ (a : Nat) (b : Option Nat), a < 4 ∧ (∀ m, b = some m → m < 10) ∧ x.a = Go.Proofs.half a ∧ x.b = most b := by
  obtain ⟨a, b, h1, h2, h3, h4⟩ := h.half x hx
  rcases h4 with h4 | h4
  · exact ⟨a, none, h1, fun m h => (by cases h), h3, h4⟩
  · exact ⟨a, some b, h1, fun m h => (by cases h; exact h2), h3, h4⟩

/-- what the law asks of the sums -/
structure SumsOk (t p q : List UInt8 × List UInt8) (m : Lay) : Prop where
  lo : ∃ s, Con Tryz.prog Tryz.L 25 [.str p.1, .str m.a] (.str s) ∧ Con Tryz.prog Tryz.L 25 [.str s, .str q.1] (.str t.1)
  no : p.2 = [] ∨ q.2 = [] ∨ m.b = [] → t.2 = []
  hi : p.2 ≠ [] → q.2 ≠ [] → m.b ≠ [] → ∃ s, Con Tryz.prog Tryz.L 25 [.str p.2, .str m.b] (.str s) ∧ Con Tryz.prog Tryz.L 25 [.str s, .str q.2] (.str t.2)

theorem SumsOk.mk' {t p q : List UInt8 × List UInt8} {m : Lay} {np nq a : Nat} {op oq b : Option Nat} (hp : Rp p np op) (hq : Rp q nq oq) (ha : m.a = half a) (hb : m.b = most b)
    (ht : Rp t (np + a + nq) (addO (addO op b) oq)) (h1 : np < 10 ∧ a < 10 ∧ (np + a < 10 ∧ nq < 10 ∨ np + a < 19 ∧ nq = 0))
    (h2 : ∀ x y z, op = some x → b = some y → oq = some z → x < 10 ∧ y < 10 ∧ (x + y < 10 ∧ z < 10 ∨ x + y < 19 ∧ z = 0)) : SumsOk t p q m := by
  refine ⟨?_, ?_, ?_⟩
  · refine ⟨half (np + a), ?_, ?_⟩
    · rw [hp.1, ha]; exact Tryz.c25w _ _ (.inl ⟨h1.1, h1.2.1⟩)
    · rw [hq.1, ht.1]; exact Tryz.c25w _ _ h1.2.2
  · rw [hp.2, hq.2, hb, ht.2, most_nil, most_nil, most_nil, most_nil]
    rintro (rfl | rfl | rfl)
    · rfl
    · cases op <;> cases b <;> rfl
    · cases op <;> rfl
  · rw [hp.2, hq.2, hb, ht.2]
    cases op with
    | none => intro h; exact absurd rfl h
    | some x =>
      cases oq with
      | none => intro _ h; exact absurd rfl h
      | some z =>
        cases b with
        | none => intro _ _ h; exact absurd rfl h
        | some y =>
          intro _ _ _
          obtain ⟨h3, h4, h5⟩ := h2 x y z rfl rfl rfl
          exact ⟨half (x + y), Tryz.c25w _ _ (.inl ⟨h3, h4⟩), Tryz.c25w _ _ h5⟩

theorem pos_nd : ∀ {l : List Lay}, (l.map Lay.u).Nodup → ∀ {i : Nat} {x : Lay}, l[i]? = some x → pos l x.u = i
  | [], _, i, x, h => by simp at h
  | y :: l, hn, 0, x, h => by
    simp at h; subst h
    rcases pos_cons (y := y) (l := l) (u := y.u) with ⟨_, h⟩ | ⟨h, _⟩ | ⟨h, _⟩
    · exact h
    · exact absurd rfl h
    · exact absurd rfl h
  | y :: l, hn, i + 1, x, h => by
    have hn' := nd_cons.1 hn
    have h2 : l[i]? = some x := by simpa using h
    have ih := pos_nd hn'.2 h2
    have hx := hn'.1 x (List.mem_of_getElem? h2)
    rcases pos_cons (y := y) (l := l) (u := x.u) with ⟨h, _⟩ | ⟨_, h, _⟩ | ⟨_, _, h⟩
    · exact absurd h.symm hx
    · omega
    · rw [h, ih]; omega

theorem thick_con {l : List Lay} (hok : ColOk l) (h0 : 0 < l.length) {i j : Nat} {x y : Lay} (hi : l[i]? = some x) (hj : l[j]? = some y) (hij : i < j) {s : List Lay} (hs : sub l i j = s) :
    Con Tryz.prog Tryz.L 22 [.sl l.length (lays l), .str x.u, .str y.u] (.tup [.agg [.str (thick s).1, .str (thick s).2], .int .i64 0]) := by
  have h := Tryz.c22 l x.u y.u hok (hok.check h0)
  have e0 : thE l x.u y.u = 0 := by
    unfold thE bothE
    rw [pos_nd hok.nd hi, pos_nd hok.nd hj, if_neg (show ¬((i : Int) < 0 ∨ (j : Int) < 0) by omega), if_pos rfl, if_neg (by omega)]
  unfold thB at h
  rw [e0, if_pos rfl, pos_nd hok.nd hi, pos_nd hok.nd hj, hs] at h
  exact h
theorem young_con {l : List Lay} (hok : ColOk l) (h0 : 0 < l.length) {i j : Nat} {x y : Lay} (hi : l[i]? = some x) (hj : l[j]? = some y) :
    Con Tryz.prog Tryz.L 23 [.sl l.length (lays l), .str x.u, .str y.u] (.tup [.bool (decide (j < i)), .int .i64 0]) := by
  have h := Tryz.c23 l x.u y.u (by have := hok.len; omega) (hok.check h0)
  have e0 : bothE (pos l x.u) (pos l y.u) = 0 := by
    unfold bothE
    rw [pos_nd hok.nd hi, pos_nd hok.nd hj, if_neg (by omega)]
  rw [e0, pos_nd hok.nd hi, pos_nd hok.nd hj] at h
  have e1 : decide ((0 : Int) = 0 ∧ (j : Int) < i) = decide (j < i) := by rw [Bool.eq_iff_iff, decide_eq_true_iff, decide_eq_true_iff]; omega
  rw [e1] at h
  exact h
theorem part_con {l : List Lay} (hok : ColOk l) (h0 : 0 < l.length) {x y : Lay} (hx : x ∈ l) (hy : y ∈ l) (hne : x.u ≠ y.u) :
    ∃ r : List Lay, Con Tryz.prog Tryz.L 33 [.sl l.length (lays l), .sl 2 [.str x.u, .str y.u]] (.tup [.sl r.length (lays r), .int .i64 0]) ∧
      Con Tryz.prog Tryz.L 17 [.sl l.length (lays l), .sl r.length (lays r)] (.tup [.sl l.length (lays l), .int .i64 0]) := by
  have h4 := hok.len
  have ap : ∀ {z : Lay}, z ∈ l → 0 ≤ pos l z.u := fun {z} hz => by
    rcases Int.lt_or_le (pos l z.u) 0 with h | h
    · exact absurd rfl (pos_neg.1 h z hz)
    · exact h
  have e0 : rsE l [x.u, y.u] = 0 := by
    unfold rsE
    rw [if_neg (by simp)]
    refine rsA_zero _ [] (fun u hu => ?_) (by simpa using hne)
    simp only [List.mem_cons, List.not_mem_nil, or_false] at hu
    rcases hu with rfl | rfl
    · exact ap hx
    · exact ap hy
  have h33 := Tryz.c33 l [x.u, y.u] (by omega) (by simp) (hok.check h0)
  rw [e0] at h33
  have hsub : (rsL l [x.u, y.u]).Sublist l := by unfold rsL; rw [if_pos e0]; exact List.filter_sublist
  have hmem : x ∈ rsL l [x.u, y.u] := by unfold rsL; rw [if_pos e0]; exact List.mem_filter.2 ⟨hx, has_iff.2 (List.mem_cons_self ..)⟩
  have hacc : Acc (rsL l [x.u, y.u]) := ⟨List.length_pos_of_mem hmem, by have := hsub.length_le; omega, (hsub.map Lay.u).nodup hok.nd, fun z hz => hok.layOk z (hsub.subset hz)⟩
  obtain ⟨j1, j2⟩ := jn_part hok.nd hsub (by omega)
  have h17 := Tryz.c17 l (rsL l [x.u, y.u]) (by have := hsub.length_le; omega) (hok.check h0) hacc.check
  rw [j1, j2] at h17
  exact ⟨_, h33, h17⟩

theorem addO_zero {o : Option Nat} : addO o (some 0) = o := by cases o <;> rfl
theorem zero_addO {o : Option Nat} : addO (some 0) o = o := by cases o <;> simp [addO]
theorem Rp.cast {s : List UInt8 × List UInt8} {n n' : Nat} {o o' : Option Nat} (h : Rp s n o) (hn : n = n') (ho : o = o') : Rp s n' o' := hn ▸ ho ▸ h
theorem sums_A {l : List Lay} (h : ColOk l) {m : Lay} (hm : m ∈ l) : SumsOk (thick [m]) (thick []) (thick []) m := by
  obtain ⟨a, b, ha, hb, e1, e2⟩ := h.bounds hm
  have s0 : small20 (some 0) := fun m h => by cases h; omega
  have s1 : small20 b := fun m h => by have := hb m h; omega
  have r1 : Rp (thick [m]) (0 + a) (addO (some 0) b) := Rp.zero.step e1 e2 (by omega) (by omega) s0 s1
  refine SumsOk.mk' (p := thick []) (q := thick []) Rp.zero Rp.zero e1 e2 (r1.cast (by omega) addO_zero.symm) (by omega) ?_
  rintro x y z hx hy hz
  cases hx; cases hz
  have := hb y hy
  omega
theorem sums_B {l : List Lay} (h : ColOk l) {m q : Lay} (hm : m ∈ l) (hq : q ∈ l) : SumsOk (thick [m, q]) (thick []) (thick [q]) m := by
  obtain ⟨a, b, ha, hb, e1, e2⟩ := h.bounds hm
  obtain ⟨a', b', ha', hb', e1', e2'⟩ := h.bounds hq
  have s0 : small20 (some 0) := fun m h => by cases h; omega
  have s1 : small20 b := fun m h => by have := hb m h; omega
  have s2 : small20 b' := fun m h => by have := hb' m h; omega
  have r1 : Rp (thick [m]) (0 + a) b := (Rp.zero.step e1 e2 (by omega) (by omega) s0 s1).cast rfl zero_addO
  have r2 : Rp (thick [q]) (0 + a') b' := (Rp.zero.step e1' e2' (by omega) (by omega) s0 s2).cast rfl zero_addO
  have r3 : Rp (thick [m, q]) (0 + a + a') (addO b b') := r1.step e1' e2' (by omega) (by omega) s1 s2
  refine SumsOk.mk' (p := thick []) (q := thick [q]) Rp.zero r2 e1 e2 (r3.cast (by omega) (by rw [zero_addO])) (by omega) ?_
  rintro x y z hx hy hz
  cases hx
  have := hb y hy
  have := hb' z hz
  omega
theorem sums_C {l : List Lay} (h : ColOk l) {m q : Lay} (hm : m ∈ l) (hq : q ∈ l) : SumsOk (thick [q, m]) (thick [q]) (thick []) m := by
  obtain ⟨a, b, ha, hb, e1, e2⟩ := h.bounds hm
  obtain ⟨a', b', ha', hb', e1', e2'⟩ := h.bounds hq
  have s0 : small20 (some 0) := fun m h => by cases h; omega
  have s1 : small20 b := fun m h => by have := hb m h; omega
  have s2 : small20 b' := fun m h => by have := hb' m h; omega
  have r2 : Rp (thick [q]) (0 + a') b' := (Rp.zero.step e1' e2' (by omega) (by omega) s0 s2).cast rfl zero_addO
  have r3 : Rp (thick [q, m]) (0 + a' + a) (addO b' b) := r2.step e1 e2 (by omega) (by omega) s2 s1
  refine SumsOk.mk' (p := thick [q]) (q := thick []) r2 Rp.zero e1 e2 (r3.cast (by omega) addO_zero.symm) (by omega) ?_
  rintro x y z hx hy hz
  cases hz
  have := hb y hy
  have := hb' x hx
  omega

theorem k0 : ((0 : Nat) : Int) = 0 := rfl
theorem k1 : ((1 : Nat) : Int) = 1 := rfl
theorem k2 : ((2 : Nat) : Int) = 2 := rfl
theorem k3 : ((3 : Nat) : Int) = 3 := rfl
theorem k4 : ((4 : Nat) : Int) = 4 := rfl

set_option maxRecDepth 100000 in
set_option maxHeartbeats 4000000 in
theorem Tryz.c7A (p : Pl) (hp : p.ok) (n : Int) (hn : isByte n) (x m y : Lay) (hl : p.make = [x, m, y]) (htm : n.tmod 1 = 0) : Con Tryz.prog Tryz.L 7 [p.d, .int .u8 n] (.bool true) := by
  refine rule7 Tryz.hL rfl rfl rfl ?_
  simp only [pc7, rs7, Pl.d, evA, evB, evC, forall_const, implies_true, initE, stepF, D.clean, mvF, moF, tkF, shF, ariF, ciF, catF, scF, ebF, eqF, eqOk, eqPr, enF, notF, ngF, cvF, csF, csbF, lenF, lenSF, ixF, iaF, PX.slot, iaAF, faF, ldF, D.mem, stF, bxF, mkSF, boundF, fldF, mmF2, D.plain, D.isPure, optAll, D.dull, callVF, splice, D.cells, D.one, sets, resT, D.flat, D.flat0, D.simple, Nat.reduceBNe, Nat.reduceLT, reduceIte, Nat.reduceEqDiff, Nat.reduceAdd, Nat.reduceMul, Nat.reduceSub, Nat.reduceLeDiff, Int.reduceToNat, Int.reduceLT, Int.reduceLE, Int.reduceEq, Int.reduceNeg, Int.reduceSub, Int.reduceAdd, Int.reduceMul]
  refine callF_of Tryz.c11 ?_
  simp only [evA, evB, evC, forall_const, implies_true, initE, stepF, D.clean, mvF, moF, tkF, shF, ariF, ciF, catF, scF, ebF, eqF, eqOk, eqPr, enF, notF, ngF, cvF, csF, csbF, lenF, lenSF, ixF, iaF, PX.slot, iaAF, faF, ldF, D.mem, stF, bxF, mkSF, boundF, fldF, mmF2, D.plain, D.isPure, optAll, D.dull, callVF, splice, D.cells, D.one, sets, resT, D.flat, D.flat0, D.simple, Nat.reduceBNe, Nat.reduceLT, reduceIte, Nat.reduceEqDiff, Nat.reduceAdd, Nat.reduceMul, Nat.reduceSub, Nat.reduceLeDiff, Int.reduceToNat, Int.reduceLT, Int.reduceLE, Int.reduceEq, Int.reduceNeg, Int.reduceSub, Int.reduceAdd, Int.reduceMul]
  have h12 := Tryz.c12 p hp
  have hok := p.make_ok
  rw [hl] at h12 hok
  simp only [Pl.d, lays_cons, lays_nil, List.length_cons, List.length_nil, Nat.reduceAdd] at h12
  clear hl
  refine callF_of h12 ?_
  simp only [evA, evB, evC, forall_const, implies_true, initE, stepF, D.clean, mvF, moF, tkF, shF, ariF, ciF, catF, scF, ebF, eqF, eqOk, eqPr, enF, notF, ngF, cvF, csF, csbF, lenF, lenSF, ixF, iaF, PX.slot, iaAF, faF, ldF, D.mem, stF, bxF, mkSF, boundF, fldF, mmF2, D.plain, D.isPure, optAll, D.dull, callVF, splice, D.cells, D.one, sets, resT, D.flat, D.flat0, D.simple, Nat.reduceBNe, Nat.reduceLT, reduceIte, Nat.reduceEqDiff, Nat.reduceAdd, Nat.reduceMul, Nat.reduceSub, Nat.reduceLeDiff, Int.reduceToNat, Int.reduceLT, Int.reduceLE, Int.reduceEq, Int.reduceNeg, Int.reduceSub, Int.reduceAdd, Int.reduceMul, k3, htm, Int.reduceMod, Int.add_zero]
  refine ⟨⟨by have := hn.1; omega, by have := hn.2; omega⟩, ?_⟩
  have hT := thick_con hok (by simp) (i := 0) (j := 2) (x := x) (y := y) rfl rfl (by omega) (s := [m]) rfl
  have hP := thick_con hok (by simp) (i := 0) (j := 1) (x := x) (y := m) rfl rfl (by omega) (s := []) rfl
  have hQ := thick_con hok (by simp) (i := 1) (j := 2) (x := m) (y := y) rfl rfl (by omega) (s := []) rfl
  have hS := sums_A hok (m := m) (by simp)
  have hY1 := young_con hok (by simp) (i := 0) (j := 1) (x := x) (y := m) rfl rfl
  have hY2 := young_con hok (by simp) (i := 1) (j := 0) (x := m) (y := x) rfl rfl
  rw [decide_eq_false (by omega)] at hY1
  rw [decide_eq_true (by omega)] at hY2
  have hne : y.u ≠ m.u := fun h => by
    have e := congrArg (pos [x, m, y]) h
    rw [pos_nd hok.nd (i := 2) (x := y) rfl, pos_nd hok.nd (i := 1) (x := m) rfl] at e
    omega
  obtain ⟨r, h33, h17⟩ := part_con hok (by simp) (x := y) (y := m) (by simp) (by simp) hne
  have h18 := Tryz.c18 [x, m, y] (by simp)
  obtain ⟨T, P, Q, hT, hP, hQ, hS⟩ : ∃ T P Q, Con Tryz.prog Tryz.L 22 _ (.tup [.agg [.str T.1, .str T.2], .int .i64 0]) ∧ Con Tryz.prog Tryz.L 22 _ (.tup [.agg [.str P.1, .str P.2], .int .i64 0]) ∧ Con Tryz.prog Tryz.L 22 _ (.tup [.agg [.str Q.1, .str Q.2], .int .i64 0]) ∧ SumsOk T P Q m := ⟨_, _, _, hT, hP, hQ, hS⟩
  refine callF_of hT ?_
  simp only [evA, evB, evC, forall_const, implies_true, initE, stepF, D.clean, mvF, moF, tkF, shF, ariF, ciF, catF, scF, ebF, eqF, eqOk, eqPr, enF, notF, ngF, cvF, csF, csbF, lenF, lenSF, ixF, iaF, PX.slot, iaAF, faF, ldF, D.mem, stF, bxF, mkSF, boundF, fldF, mmF2, D.plain, D.isPure, optAll, D.dull, callVF, splice, D.cells, D.one, sets, resT, D.flat, D.flat0, D.simple, Nat.reduceBNe, Nat.reduceLT, reduceIte, Nat.reduceEqDiff, Nat.reduceAdd, Nat.reduceMul, Nat.reduceSub, Nat.reduceLeDiff, Int.reduceToNat, Int.reduceLT, Int.reduceLE, Int.reduceEq, Int.reduceNeg, Int.reduceSub, Int.reduceAdd, Int.reduceMul]
  refine callF_of hP ?_
  simp only [evA, evB, evC, forall_const, implies_true, initE, stepF, D.clean, mvF, moF, tkF, shF, ariF, ciF, catF, scF, ebF, eqF, eqOk, eqPr, enF, notF, ngF, cvF, csF, csbF, lenF, lenSF, ixF, iaF, PX.slot, iaAF, faF, ldF, D.mem, stF, bxF, mkSF, boundF, fldF, mmF2, D.plain, D.isPure, optAll, D.dull, callVF, splice, D.cells, D.one, sets, resT, D.flat, D.flat0, D.simple, Nat.reduceBNe, Nat.reduceLT, reduceIte, Nat.reduceEqDiff, Nat.reduceAdd, Nat.reduceMul, Nat.reduceSub, Nat.reduceLeDiff, Int.reduceToNat, Int.reduceLT, Int.reduceLE, Int.reduceEq, Int.reduceNeg, Int.reduceSub, Int.reduceAdd, Int.reduceMul]
  refine callF_of hQ ?_
  simp only [evA, evB, evC, forall_const, implies_true, initE, stepF, D.clean, mvF, moF, tkF, shF, ariF, ciF, catF, scF, ebF, eqF, eqOk, eqPr, enF, notF, ngF, cvF, csF, csbF, lenF, lenSF, ixF, iaF, PX.slot, iaAF, faF, ldF, D.mem, stF, bxF, mkSF, boundF, fldF, mmF2, D.plain, D.isPure, optAll, D.dull, callVF, splice, D.cells, D.one, sets, resT, D.flat, D.flat0, D.simple, Nat.reduceBNe, Nat.reduceLT, reduceIte, Nat.reduceEqDiff, Nat.reduceAdd, Nat.reduceMul, Nat.reduceSub, Nat.reduceLeDiff, Int.reduceToNat, Int.reduceLT, Int.reduceLE, Int.reduceEq, Int.reduceNeg, Int.reduceSub, Int.reduceAdd, Int.reduceMul]
  refine callF_of hY1 ?_
  simp only [evA, evB, evC, forall_const, implies_true, initE, stepF, D.clean, mvF, moF, tkF, shF, ariF, ciF, catF, scF, ebF, eqF, eqOk, eqPr, enF, notF, ngF, cvF, csF, csbF, lenF, lenSF, ixF, iaF, PX.slot, iaAF, faF, ldF, D.mem, stF, bxF, mkSF, boundF, fldF, mmF2, D.plain, D.isPure, optAll, D.dull, callVF, splice, D.cells, D.one, sets, resT, D.flat, D.flat0, D.simple, Nat.reduceBNe, Nat.reduceLT, reduceIte, Nat.reduceEqDiff, Nat.reduceAdd, Nat.reduceMul, Nat.reduceSub, Nat.reduceLeDiff, Int.reduceToNat, Int.reduceLT, Int.reduceLE, Int.reduceEq, Int.reduceNeg, Int.reduceSub, Int.reduceAdd, Int.reduceMul]
  refine callF_of hY2 ?_
  simp only [evA, evB, evC, forall_const, implies_true, initE, stepF, D.clean, mvF, moF, tkF, shF, ariF, ciF, catF, scF, ebF, eqF, eqOk, eqPr, enF, notF, ngF, cvF, csF, csbF, lenF, lenSF, ixF, iaF, PX.slot, iaAF, faF, ldF, D.mem, stF, bxF, mkSF, boundF, fldF, mmF2, D.plain, D.isPure, optAll, D.dull, callVF, splice, D.cells, D.one, sets, resT, D.flat, D.flat0, D.simple, Nat.reduceBNe, Nat.reduceLT, reduceIte, Nat.reduceEqDiff, Nat.reduceAdd, Nat.reduceMul, Nat.reduceSub, Nat.reduceLeDiff, Int.reduceToNat, Int.reduceLT, Int.reduceLE, Int.reduceEq, Int.reduceNeg, Int.reduceSub, Int.reduceAdd, Int.reduceMul]
  refine callF_of h33 ?_
  simp only [evA, evB, evC, forall_const, implies_true, initE, stepF, D.clean, mvF, moF, tkF, shF, ariF, ciF, catF, scF, ebF, eqF, eqOk, eqPr, enF, notF, ngF, cvF, csF, csbF, lenF, lenSF, ixF, iaF, PX.slot, iaAF, faF, ldF, D.mem, stF, bxF, mkSF, boundF, fldF, mmF2, D.plain, D.isPure, optAll, D.dull, callVF, splice, D.cells, D.one, sets, resT, D.flat, D.flat0, D.simple, Nat.reduceBNe, Nat.reduceLT, reduceIte, Nat.reduceEqDiff, Nat.reduceAdd, Nat.reduceMul, Nat.reduceSub, Nat.reduceLeDiff, Int.reduceToNat, Int.reduceLT, Int.reduceLE, Int.reduceEq, Int.reduceNeg, Int.reduceSub, Int.reduceAdd, Int.reduceMul]
  refine callF_of h17 ?_
  simp only [evA, evB, evC, forall_const, implies_true, initE, stepF, D.clean, mvF, moF, tkF, shF, ariF, ciF, catF, scF, ebF, eqF, eqOk, eqPr, enF, notF, ngF, cvF, csF, csbF, lenF, lenSF, ixF, iaF, PX.slot, iaAF, faF, ldF, D.mem, stF, bxF, mkSF, boundF, fldF, mmF2, D.plain, D.isPure, optAll, D.dull, callVF, splice, D.cells, D.one, sets, resT, D.flat, D.flat0, D.simple, Nat.reduceBNe, Nat.reduceLT, reduceIte, Nat.reduceEqDiff, Nat.reduceAdd, Nat.reduceMul, Nat.reduceSub, Nat.reduceLeDiff, Int.reduceToNat, Int.reduceLT, Int.reduceLE, Int.reduceEq, Int.reduceNeg, Int.reduceSub, Int.reduceAdd, Int.reduceMul]
  refine callF_of h18 ?_
  simp only [evA, evB, evC, forall_const, implies_true, initE, stepF, D.clean, mvF, moF, tkF, shF, ariF, ciF, catF, scF, ebF, eqF, eqOk, eqPr, enF, notF, ngF, cvF, csF, csbF, lenF, lenSF, ixF, iaF, PX.slot, iaAF, faF, ldF, D.mem, stF, bxF, mkSF, boundF, fldF, mmF2, D.plain, D.isPure, optAll, D.dull, callVF, splice, D.cells, D.one, sets, resT, D.flat, D.flat0, D.simple, Nat.reduceBNe, Nat.reduceLT, reduceIte, Nat.reduceEqDiff, Nat.reduceAdd, Nat.reduceMul, Nat.reduceSub, Nat.reduceLeDiff, Int.reduceToNat, Int.reduceLT, Int.reduceLE, Int.reduceEq, Int.reduceNeg, Int.reduceSub, Int.reduceAdd, Int.reduceMul]
  obtain ⟨s1, g1, g2⟩ := hS.lo
  refine callF_of g1 ?_
  simp only [evA, evB, evC, forall_const, implies_true, initE, stepF, D.clean, mvF, moF, tkF, shF, ariF, ciF, catF, scF, ebF, eqF, eqOk, eqPr, enF, notF, ngF, cvF, csF, csbF, lenF, lenSF, ixF, iaF, PX.slot, iaAF, faF, ldF, D.mem, stF, bxF, mkSF, boundF, fldF, mmF2, D.plain, D.isPure, optAll, D.dull, callVF, splice, D.cells, D.one, sets, resT, D.flat, D.flat0, D.simple, Nat.reduceBNe, Nat.reduceLT, reduceIte, Nat.reduceEqDiff, Nat.reduceAdd, Nat.reduceMul, Nat.reduceSub, Nat.reduceLeDiff, Int.reduceToNat, Int.reduceLT, Int.reduceLE, Int.reduceEq, Int.reduceNeg, Int.reduceSub, Int.reduceAdd, Int.reduceMul]
  refine callF_of g2 ?_
  simp only [evA, evB, evC, forall_const, implies_true, initE, stepF, D.clean, mvF, moF, tkF, shF, ariF, ciF, catF, scF, ebF, eqF, eqOk, eqPr, enF, notF, ngF, cvF, csF, csbF, lenF, lenSF, ixF, iaF, PX.slot, iaAF, faF, ldF, D.mem, stF, bxF, mkSF, boundF, fldF, mmF2, D.plain, D.isPure, optAll, D.dull, callVF, splice, D.cells, D.one, sets, resT, D.flat, D.flat0, D.simple, Nat.reduceBNe, Nat.reduceLT, reduceIte, Nat.reduceEqDiff, Nat.reduceAdd, Nat.reduceMul, Nat.reduceSub, Nat.reduceLeDiff, Int.reduceToNat, Int.reduceLT, Int.reduceLE, Int.reduceEq, Int.reduceNeg, Int.reduceSub, Int.reduceAdd, Int.reduceMul]
  have no := hS.no
  have hi := hS.hi
  refine ⟨fun z1 => ⟨fun z2 => ⟨fun z3 => dB_iff.2 (no (.inr (.inr z3))), fun z3 => ?_⟩, fun z2 => dB_iff.2 (no (.inr (.inl z2)))⟩, fun z1 => dB_iff.2 (no (.inl z1))⟩
  obtain ⟨s2, g3, g4⟩ := hi z1 z2 z3
  refine callF_of g3 ?_
  simp only [evA, evB, evC, forall_const, implies_true, initE, stepF, D.clean, mvF, moF, tkF, shF, ariF, ciF, catF, scF, ebF, eqF, eqOk, eqPr, enF, notF, ngF, cvF, csF, csbF, lenF, lenSF, ixF, iaF, PX.slot, iaAF, faF, ldF, D.mem, stF, bxF, mkSF, boundF, fldF, mmF2, D.plain, D.isPure, optAll, D.dull, callVF, splice, D.cells, D.one, sets, resT, D.flat, D.flat0, D.simple, Nat.reduceBNe, Nat.reduceLT, reduceIte, Nat.reduceEqDiff, Nat.reduceAdd, Nat.reduceMul, Nat.reduceSub, Nat.reduceLeDiff, Int.reduceToNat, Int.reduceLT, Int.reduceLE, Int.reduceEq, Int.reduceNeg, Int.reduceSub, Int.reduceAdd, Int.reduceMul]
  refine callF_of g4 ?_
  simp only [evA, evB, evC, forall_const, implies_true, initE, stepF, D.clean, mvF, moF, tkF, shF, ariF, ciF, catF, scF, ebF, eqF, eqOk, eqPr, enF, notF, ngF, cvF, csF, csbF, lenF, lenSF, ixF, iaF, PX.slot, iaAF, faF, ldF, D.mem, stF, bxF, mkSF, boundF, fldF, mmF2, D.plain, D.isPure, optAll, D.dull, callVF, splice, D.cells, D.one, sets, resT, D.flat, D.flat0, D.simple, Nat.reduceBNe, Nat.reduceLT, reduceIte, Nat.reduceEqDiff, Nat.reduceAdd, Nat.reduceMul, Nat.reduceSub, Nat.reduceLeDiff, Int.reduceToNat, Int.reduceLT, Int.reduceLE, Int.reduceEq, Int.reduceNeg, Int.reduceSub, Int.reduceAdd, Int.reduceMul]

set_option maxRecDepth 100000 in
set_option maxHeartbeats 4000000 in
theorem Tryz.c7B (p : Pl) (hp : p.ok) (n : Int) (hn : isByte n) (x m q y : Lay) (hl : p.make = [x, m, q, y]) (htm : n.tmod 2 = 0) : Con Tryz.prog Tryz.L 7 [p.d, .int .u8 n] (.bool true) := by
  refine rule7 Tryz.hL rfl rfl rfl ?_
  simp only [pc7, rs7, Pl.d, evA, evB, evC, forall_const, implies_true, initE, stepF, D.clean, mvF, moF, tkF, shF, ariF, ciF, catF, scF, ebF, eqF, eqOk, eqPr, enF, notF, ngF, cvF, csF, csbF, lenF, lenSF, ixF, iaF, PX.slot, iaAF, faF, ldF, D.mem, stF, bxF, mkSF, boundF, fldF, mmF2, D.plain, D.isPure, optAll, D.dull, callVF, splice, D.cells, D.one, sets, resT, D.flat, D.flat0, D.simple, Nat.reduceBNe, Nat.reduceLT, reduceIte, Nat.reduceEqDiff, Nat.reduceAdd, Nat.reduceMul, Nat.reduceSub, Nat.reduceLeDiff, Int.reduceToNat, Int.reduceLT, Int.reduceLE, Int.reduceEq, Int.reduceNeg, Int.reduceSub, Int.reduceAdd, Int.reduceMul]
  refine callF_of Tryz.c11 ?_
  simp only [evA, evB, evC, forall_const, implies_true, initE, stepF, D.clean, mvF, moF, tkF, shF, ariF, ciF, catF, scF, ebF, eqF, eqOk, eqPr, enF, notF, ngF, cvF, csF, csbF, lenF, lenSF, ixF, iaF, PX.slot, iaAF, faF, ldF, D.mem, stF, bxF, mkSF, boundF, fldF, mmF2, D.plain, D.isPure, optAll, D.dull, callVF, splice, D.cells, D.one, sets, resT, D.flat, D.flat0, D.simple, Nat.reduceBNe, Nat.reduceLT, reduceIte, Nat.reduceEqDiff, Nat.reduceAdd, Nat.reduceMul, Nat.reduceSub, Nat.reduceLeDiff, Int.reduceToNat, Int.reduceLT, Int.reduceLE, Int.reduceEq, Int.reduceNeg, Int.reduceSub, Int.reduceAdd, Int.reduceMul]
  have h12 := Tryz.c12 p hp
  have hok := p.make_ok
  rw [hl] at h12 hok
  simp only [Pl.d, lays_cons, lays_nil, List.length_cons, List.length_nil, Nat.reduceAdd] at h12
  clear hl
  refine callF_of h12 ?_
  simp only [evA, evB, evC, forall_const, implies_true, initE, stepF, D.clean, mvF, moF, tkF, shF, ariF, ciF, catF, scF, ebF, eqF, eqOk, eqPr, enF, notF, ngF, cvF, csF, csbF, lenF, lenSF, ixF, iaF, PX.slot, iaAF, faF, ldF, D.mem, stF, bxF, mkSF, boundF, fldF, mmF2, D.plain, D.isPure, optAll, D.dull, callVF, splice, D.cells, D.one, sets, resT, D.flat, D.flat0, D.simple, Nat.reduceBNe, Nat.reduceLT, reduceIte, Nat.reduceEqDiff, Nat.reduceAdd, Nat.reduceMul, Nat.reduceSub, Nat.reduceLeDiff, Int.reduceToNat, Int.reduceLT, Int.reduceLE, Int.reduceEq, Int.reduceNeg, Int.reduceSub, Int.reduceAdd, Int.reduceMul, k4, htm, Int.reduceMod, Int.add_zero]
  refine ⟨⟨by have := hn.1; omega, by have := hn.2; omega⟩, ?_⟩
  have hT := thick_con hok (by simp) (i := 0) (j := 3) (x := x) (y := y) rfl rfl (by omega) (s := [m, q]) rfl
  have hP := thick_con hok (by simp) (i := 0) (j := 1) (x := x) (y := m) rfl rfl (by omega) (s := []) rfl
  have hQ := thick_con hok (by simp) (i := 1) (j := 3) (x := m) (y := y) rfl rfl (by omega) (s := [q]) rfl
  have hS := sums_B hok (m := m) (q := q) (by simp) (by simp)
  have hY1 := young_con hok (by simp) (i := 0) (j := 1) (x := x) (y := m) rfl rfl
  have hY2 := young_con hok (by simp) (i := 1) (j := 0) (x := m) (y := x) rfl rfl
  rw [decide_eq_false (by omega)] at hY1
  rw [decide_eq_true (by omega)] at hY2
  have hne : y.u ≠ m.u := fun h => by
    have e := congrArg (pos [x, m, q, y]) h
    rw [pos_nd hok.nd (i := 3) (x := y) rfl, pos_nd hok.nd (i := 1) (x := m) rfl] at e
    omega
  obtain ⟨r, h33, h17⟩ := part_con hok (by simp) (x := y) (y := m) (by simp) (by simp) hne
  have h18 := Tryz.c18 [x, m, q, y] (by simp)
  obtain ⟨T, P, Q, hT, hP, hQ, hS⟩ : ∃ T P Q, Con Tryz.prog Tryz.L 22 _ (.tup [.agg [.str T.1, .str T.2], .int .i64 0]) ∧ Con Tryz.prog Tryz.L 22 _ (.tup [.agg [.str P.1, .str P.2], .int .i64 0]) ∧ Con Tryz.prog Tryz.L 22 _ (.tup [.agg [.str Q.1, .str Q.2], .int .i64 0]) ∧ SumsOk T P Q m := ⟨_, _, _, hT, hP, hQ, hS⟩
  refine callF_of hT ?_
  simp only [evA, evB, evC, forall_const, implies_true, initE, stepF, D.clean, mvF, moF, tkF, shF, ariF, ciF, catF, scF, ebF, eqF, eqOk, eqPr, enF, notF, ngF, cvF, csF, csbF, lenF, lenSF, ixF, iaF, PX.slot, iaAF, faF, ldF, D.mem, stF, bxF, mkSF, boundF, fldF, mmF2, D.plain, D.isPure, optAll, D.dull, callVF, splice, D.cells, D.one, sets, resT, D.flat, D.flat0, D.simple, Nat.reduceBNe, Nat.reduceLT, reduceIte, Nat.reduceEqDiff, Nat.reduceAdd, Nat.reduceMul, Nat.reduceSub, Nat.reduceLeDiff, Int.reduceToNat, Int.reduceLT, Int.reduceLE, Int.reduceEq, Int.reduceNeg, Int.reduceSub, Int.reduceAdd, Int.reduceMul]
  refine callF_of hP ?_
  simp only [evA, evB, evC, forall_const, implies_true, initE, stepF, D.clean, mvF, moF, tkF, shF, ariF, ciF, catF, scF, ebF, eqF, eqOk, eqPr, enF, notF, ngF, cvF, csF, csbF, lenF, lenSF, ixF, iaF, PX.slot, iaAF, faF, ldF, D.mem, stF, bxF, mkSF, boundF, fldF, mmF2, D.plain, D.isPure, optAll, D.dull, callVF, splice, D.cells, D.one, sets, resT, D.flat, D.flat0, D.simple, Nat.reduceBNe, Nat.reduceLT, reduceIte, Nat.reduceEqDiff, Nat.reduceAdd, Nat.reduceMul, Nat.reduceSub, Nat.reduceLeDiff, Int.reduceToNat, Int.reduceLT, Int.reduceLE, Int.reduceEq, Int.reduceNeg, Int.reduceSub, Int.reduceAdd, Int.reduceMul]
  refine callF_of hQ ?_
  simp only [evA, evB, evC, forall_const, implies_true, initE, stepF, D.clean, mvF, moF, tkF, shF, ariF, ciF, catF, scF, ebF, eqF, eqOk, eqPr, enF, notF, ngF, cvF, csF, csbF, lenF, lenSF, ixF, iaF, PX.slot, iaAF, faF, ldF, D.mem, stF, bxF, mkSF, boundF, fldF, mmF2, D.plain, D.isPure, optAll, D.dull, callVF, splice, D.cells, D.one, sets, resT, D.flat, D.flat0, D.simple, Nat.reduceBNe, Nat.reduceLT, reduceIte, Nat.reduceEqDiff, Nat.reduceAdd, Nat.reduceMul, Nat.reduceSub, Nat.reduceLeDiff, Int.reduceToNat, Int.reduceLT, Int.reduceLE, Int.reduceEq, Int.reduceNeg, Int.reduceSub, Int.reduceAdd, Int.reduceMul]
  refine callF_of hY1 ?_
  simp only [evA, evB, evC, forall_const, implies_true, initE, stepF, D.clean, mvF, moF, tkF, shF, ariF, ciF, catF, scF, ebF, eqF, eqOk, eqPr, enF, notF, ngF, cvF, csF, csbF, lenF, lenSF, ixF, iaF, PX.slot, iaAF, faF, ldF, D.mem, stF, bxF, mkSF, boundF, fldF, mmF2, D.plain, D.isPure, optAll, D.dull, callVF, splice, D.cells, D.one, sets, resT, D.flat, D.flat0, D.simple, Nat.reduceBNe, Nat.reduceLT, reduceIte, Nat.reduceEqDiff, Nat.reduceAdd, Nat.reduceMul, Nat.reduceSub, Nat.reduceLeDiff, Int.reduceToNat, Int.reduceLT, Int.reduceLE, Int.reduceEq, Int.reduceNeg, Int.reduceSub, Int.reduceAdd, Int.reduceMul]
  refine callF_of hY2 ?_
  simp only [evA, evB, evC, forall_const, implies_true, initE, stepF, D.clean, mvF, moF, tkF, shF, ariF, ciF, catF, scF, ebF, eqF, eqOk, eqPr, enF, notF, ngF, cvF, csF, csbF, lenF, lenSF, ixF, iaF, PX.slot, iaAF, faF, ldF, D.mem, stF, bxF, mkSF, boundF, fldF, mmF2, D.plain, D.isPure, optAll, D.dull, callVF, splice, D.cells, D.one, sets, resT, D.flat, D.flat0, D.simple, Nat.reduceBNe, Nat.reduceLT, reduceIte, Nat.reduceEqDiff, Nat.reduceAdd, Nat.reduceMul, Nat.reduceSub, Nat.reduceLeDiff, Int.reduceToNat, Int.reduceLT, Int.reduceLE, Int.reduceEq, Int.reduceNeg, Int.reduceSub, Int.reduceAdd, Int.reduceMul]
  refine callF_of h33 ?_
  simp only [evA, evB, evC, forall_const, implies_true, initE, stepF, D.clean, mvF, moF, tkF, shF, ariF, ciF, catF, scF, ebF, eqF, eqOk, eqPr, enF, notF, ngF, cvF, csF, csbF, lenF, lenSF, ixF, iaF, PX.slot, iaAF, faF, ldF, D.mem, stF, bxF, mkSF, boundF, fldF, mmF2, D.plain, D.isPure, optAll, D.dull, callVF, splice, D.cells, D.one, sets, resT, D.flat, D.flat0, D.simple, Nat.reduceBNe, Nat.reduceLT, reduceIte, Nat.reduceEqDiff, Nat.reduceAdd, Nat.reduceMul, Nat.reduceSub, Nat.reduceLeDiff, Int.reduceToNat, Int.reduceLT, Int.reduceLE, Int.reduceEq, Int.reduceNeg, Int.reduceSub, Int.reduceAdd, Int.reduceMul]
  refine callF_of h17 ?_
  simp only [evA, evB, evC, forall_const, implies_true, initE, stepF, D.clean, mvF, moF, tkF, shF, ariF, ciF, catF, scF, ebF, eqF, eqOk, eqPr, enF, notF, ngF, cvF, csF, csbF, lenF, lenSF, ixF, iaF, PX.slot, iaAF, faF, ldF, D.mem, stF, bxF, mkSF, boundF, fldF, mmF2, D.plain, D.isPure, optAll, D.dull, callVF, splice, D.cells, D.one, sets, resT, D.flat, D.flat0, D.simple, Nat.reduceBNe, Nat.reduceLT, reduceIte, Nat.reduceEqDiff, Nat.reduceAdd, Nat.reduceMul, Nat.reduceSub, Nat.reduceLeDiff, Int.reduceToNat, Int.reduceLT, Int.reduceLE, Int.reduceEq, Int.reduceNeg, Int.reduceSub, Int.reduceAdd, Int.reduceMul]
  refine callF_of h18 ?_
  simp only [evA, evB, evC, forall_const, implies_true, initE, stepF, D.clean, mvF, moF, tkF, shF, ariF, ciF, catF, scF, ebF, eqF, eqOk, eqPr, enF, notF, ngF, cvF, csF, csbF, lenF, lenSF, ixF, iaF, PX.slot, iaAF, faF, ldF, D.mem, stF, bxF, mkSF, boundF, fldF, mmF2, D.plain, D.isPure, optAll, D.dull, callVF, splice, D.cells, D.one, sets, resT, D.flat, D.flat0, D.simple, Nat.reduceBNe, Nat.reduceLT, reduceIte, Nat.reduceEqDiff, Nat.reduceAdd, Nat.reduceMul, Nat.reduceSub, Nat.reduceLeDiff, Int.reduceToNat, Int.reduceLT, Int.reduceLE, Int.reduceEq, Int.reduceNeg, Int.reduceSub, Int.reduceAdd, Int.reduceMul]
  obtain ⟨s1, g1, g2⟩ := hS.lo
  refine callF_of g1 ?_
  simp only [evA, evB, evC, forall_const, implies_true, initE, stepF, D.clean, mvF, moF, tkF, shF, ariF, ciF, catF, scF, ebF, eqF, eqOk, eqPr, enF, notF, ngF, cvF, csF, csbF, lenF, lenSF, ixF, iaF, PX.slot, iaAF, faF, ldF, D.mem, stF, bxF, mkSF, boundF, fldF, mmF2, D.plain, D.isPure, optAll, D.dull, callVF, splice, D.cells, D.one, sets, resT, D.flat, D.flat0, D.simple, Nat.reduceBNe, Nat.reduceLT, reduceIte, Nat.reduceEqDiff, Nat.reduceAdd, Nat.reduceMul, Nat.reduceSub, Nat.reduceLeDiff, Int.reduceToNat, Int.reduceLT, Int.reduceLE, Int.reduceEq, Int.reduceNeg, Int.reduceSub, Int.reduceAdd, Int.reduceMul]
  refine callF_of g2 ?_
  simp only [evA, evB, evC, forall_const, implies_true, initE, stepF, D.clean, mvF, moF, tkF, shF, ariF, ciF, catF, scF, ebF, eqF, eqOk, eqPr, enF, notF, ngF, cvF, csF, csbF, lenF, lenSF, ixF, iaF, PX.slot, iaAF, faF, ldF, D.mem, stF, bxF, mkSF, boundF, fldF, mmF2, D.plain, D.isPure, optAll, D.dull, callVF, splice, D.cells, D.one, sets, resT, D.flat, D.flat0, D.simple, Nat.reduceBNe, Nat.reduceLT, reduceIte, Nat.reduceEqDiff, Nat.reduceAdd, Nat.reduceMul, Nat.reduceSub, Nat.reduceLeDiff, Int.reduceToNat, Int.reduceLT, Int.reduceLE, Int.reduceEq, Int.reduceNeg, Int.reduceSub, Int.reduceAdd, Int.reduceMul]
  have no := hS.no
  have hi := hS.hi
  refine ⟨fun z1 => ⟨fun z2 => ⟨fun z3 => dB_iff.2 (no (.inr (.inr z3))), fun z3 => ?_⟩, fun z2 => dB_iff.2 (no (.inr (.inl z2)))⟩, fun z1 => dB_iff.2 (no (.inl z1))⟩
  obtain ⟨s2, g3, g4⟩ := hi z1 z2 z3
  refine callF_of g3 ?_
  simp only [evA, evB, evC, forall_const, implies_true, initE, stepF, D.clean, mvF, moF, tkF, shF, ariF, ciF, catF, scF, ebF, eqF, eqOk, eqPr, enF, notF, ngF, cvF, csF, csbF, lenF, lenSF, ixF, iaF, PX.slot, iaAF, faF, ldF, D.mem, stF, bxF, mkSF, boundF, fldF, mmF2, D.plain, D.isPure, optAll, D.dull, callVF, splice, D.cells, D.one, sets, resT, D.flat, D.flat0, D.simple, Nat.reduceBNe, Nat.reduceLT, reduceIte, Nat.reduceEqDiff, Nat.reduceAdd, Nat.reduceMul, Nat.reduceSub, Nat.reduceLeDiff, Int.reduceToNat, Int.reduceLT, Int.reduceLE, Int.reduceEq, Int.reduceNeg, Int.reduceSub, Int.reduceAdd, Int.reduceMul]
  refine callF_of g4 ?_
  simp only [evA, evB, evC, forall_const, implies_true, initE, stepF, D.clean, mvF, moF, tkF, shF, ariF, ciF, catF, scF, ebF, eqF, eqOk, eqPr, enF, notF, ngF, cvF, csF, csbF, lenF, lenSF, ixF, iaF, PX.slot, iaAF, faF, ldF, D.mem, stF, bxF, mkSF, boundF, fldF, mmF2, D.plain, D.isPure, optAll, D.dull, callVF, splice, D.cells, D.one, sets, resT, D.flat, D.flat0, D.simple, Nat.reduceBNe, Nat.reduceLT, reduceIte, Nat.reduceEqDiff, Nat.reduceAdd, Nat.reduceMul, Nat.reduceSub, Nat.reduceLeDiff, Int.reduceToNat, Int.reduceLT, Int.reduceLE, Int.reduceEq, Int.reduceNeg, Int.reduceSub, Int.reduceAdd, Int.reduceMul]

set_option maxRecDepth 100000 in
set_option maxHeartbeats 4000000 in
theorem Tryz.c7C (p : Pl) (hp : p.ok) (n : Int) (hn : isByte n) (x q m y : Lay) (hl : p.make = [x, q, m, y]) (htm : n.tmod 2 = 1) : Con Tryz.prog Tryz.L 7 [p.d, .int .u8 n] (.bool true) := by
  refine rule7 Tryz.hL rfl rfl rfl ?_
  simp only [pc7, rs7, Pl.d, evA, evB, evC, forall_const, implies_true, initE, stepF, D.clean, mvF, moF, tkF, shF, ariF, ciF, catF, scF, ebF, eqF, eqOk, eqPr, enF, notF, ngF, cvF, csF, csbF, lenF, lenSF, ixF, iaF, PX.slot, iaAF, faF, ldF, D.mem, stF, bxF, mkSF, boundF, fldF, mmF2, D.plain, D.isPure, optAll, D.dull, callVF, splice, D.cells, D.one, sets, resT, D.flat, D.flat0, D.simple, Nat.reduceBNe, Nat.reduceLT, reduceIte, Nat.reduceEqDiff, Nat.reduceAdd, Nat.reduceMul, Nat.reduceSub, Nat.reduceLeDiff, Int.reduceToNat, Int.reduceLT, Int.reduceLE, Int.reduceEq, Int.reduceNeg, Int.reduceSub, Int.reduceAdd, Int.reduceMul]
  refine callF_of Tryz.c11 ?_
  simp only [evA, evB, evC, forall_const, implies_true, initE, stepF, D.clean, mvF, moF, tkF, shF, ariF, ciF, catF, scF, ebF, eqF, eqOk, eqPr, enF, notF, ngF, cvF, csF, csbF, lenF, lenSF, ixF, iaF, PX.slot, iaAF, faF, ldF, D.mem, stF, bxF, mkSF, boundF, fldF, mmF2, D.plain, D.isPure, optAll, D.dull, callVF, splice, D.cells, D.one, sets, resT, D.flat, D.flat0, D.simple, Nat.reduceBNe, Nat.reduceLT, reduceIte, Nat.reduceEqDiff, Nat.reduceAdd, Nat.reduceMul, Nat.reduceSub, Nat.reduceLeDiff, Int.reduceToNat, Int.reduceLT, Int.reduceLE, Int.reduceEq, Int.reduceNeg, Int.reduceSub, Int.reduceAdd, Int.reduceMul]
  have h12 := Tryz.c12 p hp
  have hok := p.make_ok
  rw [hl] at h12 hok
  simp only [Pl.d, lays_cons, lays_nil, List.length_cons, List.length_nil, Nat.reduceAdd] at h12
  clear hl
  refine callF_of h12 ?_
  simp only [evA, evB, evC, forall_const, implies_true, initE, stepF, D.clean, mvF, moF, tkF, shF, ariF, ciF, catF, scF, ebF, eqF, eqOk, eqPr, enF, notF, ngF, cvF, csF, csbF, lenF, lenSF, ixF, iaF, PX.slot, iaAF, faF, ldF, D.mem, stF, bxF, mkSF, boundF, fldF, mmF2, D.plain, D.isPure, optAll, D.dull, callVF, splice, D.cells, D.one, sets, resT, D.flat, D.flat0, D.simple, Nat.reduceBNe, Nat.reduceLT, reduceIte, Nat.reduceEqDiff, Nat.reduceAdd, Nat.reduceMul, Nat.reduceSub, Nat.reduceLeDiff, Int.reduceToNat, Int.reduceLT, Int.reduceLE, Int.reduceEq, Int.reduceNeg, Int.reduceSub, Int.reduceAdd, Int.reduceMul, k4, htm, Int.reduceMod, Int.add_zero]
  refine ⟨⟨by have := hn.1; omega, by have := hn.2; omega⟩, ?_⟩
  have hT := thick_con hok (by simp) (i := 0) (j := 3) (x := x) (y := y) rfl rfl (by omega) (s := [q, m]) rfl
  have hP := thick_con hok (by simp) (i := 0) (j := 2) (x := x) (y := m) rfl rfl (by omega) (s := [q]) rfl
  have hQ := thick_con hok (by simp) (i := 2) (j := 3) (x := m) (y := y) rfl rfl (by omega) (s := []) rfl
  have hS := sums_C hok (m := m) (q := q) (by simp) (by simp)
  have hY1 := young_con hok (by simp) (i := 0) (j := 2) (x := x) (y := m) rfl rfl
  have hY2 := young_con hok (by simp) (i := 2) (j := 0) (x := m) (y := x) rfl rfl
  rw [decide_eq_false (by omega)] at hY1
  rw [decide_eq_true (by omega)] at hY2
  have hne : y.u ≠ m.u := fun h => by
    have e := congrArg (pos [x, q, m, y]) h
    rw [pos_nd hok.nd (i := 3) (x := y) rfl, pos_nd hok.nd (i := 2) (x := m) rfl] at e
    omega
  obtain ⟨r, h33, h17⟩ := part_con hok (by simp) (x := y) (y := m) (by simp) (by simp) hne
  have h18 := Tryz.c18 [x, q, m, y] (by simp)
  obtain ⟨T, P, Q, hT, hP, hQ, hS⟩ : ∃ T P Q, Con Tryz.prog Tryz.L 22 _ (.tup [.agg [.str T.1, .str T.2], .int .i64 0]) ∧ Con Tryz.prog Tryz.L 22 _ (.tup [.agg [.str P.1, .str P.2], .int .i64 0]) ∧ Con Tryz.prog Tryz.L 22 _ (.tup [.agg [.str Q.1, .str Q.2], .int .i64 0]) ∧ SumsOk T P Q m := ⟨_, _, _, hT, hP, hQ, hS⟩
  refine callF_of hT ?_
  simp only [evA, evB, evC, forall_const, implies_true, initE, stepF, D.clean, mvF, moF, tkF, shF, ariF, ciF, catF, scF, ebF, eqF, eqOk, eqPr, enF, notF, ngF, cvF, csF, csbF, lenF, lenSF, ixF, iaF, PX.slot, iaAF, faF, ldF, D.mem, stF, bxF, mkSF, boundF, fldF, mmF2, D.plain, D.isPure, optAll, D.dull, callVF, splice, D.cells, D.one, sets, resT, D.flat, D.flat0, D.simple, Nat.reduceBNe, Nat.reduceLT, reduceIte, Nat.reduceEqDiff, Nat.reduceAdd, Nat.reduceMul, Nat.reduceSub, Nat.reduceLeDiff, Int.reduceToNat, Int.reduceLT, Int.reduceLE, Int.reduceEq, Int.reduceNeg, Int.reduceSub, Int.reduceAdd, Int.reduceMul]
  refine callF_of hP ?_
  simp only [evA, evB, evC, forall_const, implies_true, initE, stepF, D.clean, mvF, moF, tkF, shF, ariF, ciF, catF, scF, ebF, eqF, eqOk, eqPr, enF, notF, ngF, cvF, csF, csbF, lenF, lenSF, ixF, iaF, PX.slot, iaAF, faF, ldF, D.mem, stF, bxF, mkSF, boundF, fldF, mmF2, D.plain, D.isPure, optAll, D.dull, callVF, splice, D.cells, D.one, sets, resT, D.flat, D.flat0, D.simple, Nat.reduceBNe, Nat.reduceLT, reduceIte, Nat.reduceEqDiff, Nat.reduceAdd, Nat.reduceMul, Nat.reduceSub, Nat.reduceLeDiff, Int.reduceToNat, Int.reduceLT, Int.reduceLE, Int.reduceEq, Int.reduceNeg, Int.reduceSub, Int.reduceAdd, Int.reduceMul]
  refine callF_of hQ ?_
  simp only [evA, evB, evC, forall_const, implies_true, initE, stepF, D.clean, mvF, moF, tkF, shF, ariF, ciF, catF, scF, ebF, eqF, eqOk, eqPr, enF, notF, ngF, cvF, csF, csbF, lenF, lenSF, ixF, iaF, PX.slot, iaAF, faF, ldF, D.mem, stF, bxF, mkSF, boundF, fldF, mmF2, D.plain, D.isPure, optAll, D.dull, callVF, splice, D.cells, D.one, sets, resT, D.flat, D.flat0, D.simple, Nat.reduceBNe, Nat.reduceLT, reduceIte, Nat.reduceEqDiff, Nat.reduceAdd, Nat.reduceMul, Nat.reduceSub, Nat.reduceLeDiff, Int.reduceToNat, Int.reduceLT, Int.reduceLE, Int.reduceEq, Int.reduceNeg, Int.reduceSub, Int.reduceAdd, Int.reduceMul]
  refine callF_of hY1 ?_
  simp only [evA, evB, evC, forall_const, implies_true, initE, stepF, D.clean, mvF, moF, tkF, shF, ariF, ciF, catF, scF, ebF, eqF, eqOk, eqPr, enF, notF, ngF, cvF, csF, csbF, lenF, lenSF, ixF, iaF, PX.slot, iaAF, faF, ldF, D.mem, stF, bxF, mkSF, boundF, fldF, mmF2, D.plain, D.isPure, optAll, D.dull, callVF, splice, D.cells, D.one, sets, resT, D.flat, D.flat0, D.simple, Nat.reduceBNe, Nat.reduceLT, reduceIte, Nat.reduceEqDiff, Nat.reduceAdd, Nat.reduceMul, Nat.reduceSub, Nat.reduceLeDiff, Int.reduceToNat, Int.reduceLT, Int.reduceLE, Int.reduceEq, Int.reduceNeg, Int.reduceSub, Int.reduceAdd, Int.reduceMul]
  refine callF_of hY2 ?_
  simp only [evA, evB, evC, forall_const, implies_true, initE, stepF, D.clean, mvF, moF, tkF, shF, ariF, ciF, catF, scF, ebF, eqF, eqOk, eqPr, enF, notF, ngF, cvF, csF, csbF, lenF, lenSF, ixF, iaF, PX.slot, iaAF, faF, ldF, D.mem, stF, bxF, mkSF, boundF, fldF, mmF2, D.plain, D.isPure, optAll, D.dull, callVF, splice, D.cells, D.one, sets, resT, D.flat, D.flat0, D.simple, Nat.reduceBNe, Nat.reduceLT, reduceIte, Nat.reduceEqDiff, Nat.reduceAdd, Nat.reduceMul, Nat.reduceSub, Nat.reduceLeDiff, Int.reduceToNat, Int.reduceLT, Int.reduceLE, Int.reduceEq, Int.reduceNeg, Int.reduceSub, Int.reduceAdd, Int.reduceMul]
  refine callF_of h33 ?_
  simp only [evA, evB, evC, forall_const, implies_true, initE, stepF, D.clean, mvF, moF, tkF, shF, ariF, ciF, catF, scF, ebF, eqF, eqOk, eqPr, enF, notF, ngF, cvF, csF, csbF, lenF, lenSF, ixF, iaF, PX.slot, iaAF, faF, ldF, D.mem, stF, bxF, mkSF, boundF, fldF, mmF2, D.plain, D.isPure, optAll, D.dull, callVF, splice, D.cells, D.one, sets, resT, D.flat, D.flat0, D.simple, Nat.reduceBNe, Nat.reduceLT, reduceIte, Nat.reduceEqDiff, Nat.reduceAdd, Nat.reduceMul, Nat.reduceSub, Nat.reduceLeDiff, Int.reduceToNat, Int.reduceLT, Int.reduceLE, Int.reduceEq, Int.reduceNeg, Int.reduceSub, Int.reduceAdd, Int.reduceMul]
  refine callF_of h17 ?_
  simp only [evA, evB, evC, forall_const, implies_true, initE, stepF, D.clean, mvF, moF, tkF, shF, ariF, ciF, catF, scF, ebF, eqF, eqOk, eqPr, enF, notF, ngF, cvF, csF, csbF, lenF, lenSF, ixF, iaF, PX.slot, iaAF, faF, ldF, D.mem, stF, bxF, mkSF, boundF, fldF, mmF2, D.plain, D.isPure, optAll, D.dull, callVF, splice, D.cells, D.one, sets, resT, D.flat, D.flat0, D.simple, Nat.reduceBNe, Nat.reduceLT, reduceIte, Nat.reduceEqDiff, Nat.reduceAdd, Nat.reduceMul, Nat.reduceSub, Nat.reduceLeDiff, Int.reduceToNat, Int.reduceLT, Int.reduceLE, Int.reduceEq, Int.reduceNeg, Int.reduceSub, Int.reduceAdd, Int.reduceMul]
  refine callF_of h18 ?_
  simp only [evA, evB, evC, forall_const, implies_true, initE, stepF, D.clean, mvF, moF, tkF, shF, ariF, ciF, catF, scF, ebF, eqF, eqOk, eqPr, enF, notF, ngF, cvF, csF, csbF, lenF, lenSF, ixF, iaF, PX.slot, iaAF, faF, ldF, D.mem, stF, bxF, mkSF, boundF, fldF, mmF2, D.plain, D.isPure, optAll, D.dull, callVF, splice, D.cells, D.one, sets, resT, D.flat, D.flat0, D.simple, Nat.reduceBNe, Nat.reduceLT, reduceIte, Nat.reduceEqDiff, Nat.reduceAdd, Nat.reduceMul, Nat.reduceSub, Nat.reduceLeDiff, Int.reduceToNat, Int.reduceLT, Int.reduceLE, Int.reduceEq, Int.reduceNeg, Int.reduceSub, Int.reduceAdd, Int.reduceMul]
  obtain ⟨s1, g1, g2⟩ := hS.lo
  refine callF_of g1 ?_
  simp only [evA, evB, evC, forall_const, implies_true, initE, stepF, D.clean, mvF, moF, tkF, shF, ariF, ciF, catF, scF, ebF, eqF, eqOk, eqPr, enF, notF, ngF, cvF, csF, csbF, lenF, lenSF, ixF, iaF, PX.slot, iaAF, faF, ldF, D.mem, stF, bxF, mkSF, boundF, fldF, mmF2, D.plain, D.isPure, optAll, D.dull, callVF, splice, D.cells, D.one, sets, resT, D.flat, D.flat0, D.simple, Nat.reduceBNe, Nat.reduceLT, reduceIte, Nat.reduceEqDiff, Nat.reduceAdd, Nat.reduceMul, Nat.reduceSub, Nat.reduceLeDiff, Int.reduceToNat, Int.reduceLT, Int.reduceLE, Int.reduceEq, Int.reduceNeg, Int.reduceSub, Int.reduceAdd, Int.reduceMul]
  refine callF_of g2 ?_
  simp only [evA, evB, evC, forall_const, implies_true, initE, stepF, D.clean, mvF, moF, tkF, shF, ariF, ciF, catF, scF, ebF, eqF, eqOk, eqPr, enF, notF, ngF, cvF, csF, csbF, lenF, lenSF, ixF, iaF, PX.slot, iaAF, faF, ldF, D.mem, stF, bxF, mkSF, boundF, fldF, mmF2, D.plain, D.isPure, optAll, D.dull, callVF, splice, D.cells, D.one, sets, resT, D.flat, D.flat0, D.simple, Nat.reduceBNe, Nat.reduceLT, reduceIte, Nat.reduceEqDiff, Nat.reduceAdd, Nat.reduceMul, Nat.reduceSub, Nat.reduceLeDiff, Int.reduceToNat, Int.reduceLT, Int.reduceLE, Int.reduceEq, Int.reduceNeg, Int.reduceSub, Int.reduceAdd, Int.reduceMul]
  have no := hS.no
  have hi := hS.hi
  refine ⟨fun z1 => ⟨fun z2 => ⟨fun z3 => dB_iff.2 (no (.inr (.inr z3))), fun z3 => ?_⟩, fun z2 => dB_iff.2 (no (.inr (.inl z2)))⟩, fun z1 => dB_iff.2 (no (.inl z1))⟩
  obtain ⟨s2, g3, g4⟩ := hi z1 z2 z3
  refine callF_of g3 ?_
  simp only [evA, evB, evC, forall_const, implies_true, initE, stepF, D.clean, mvF, moF, tkF, shF, ariF, ciF, catF, scF, ebF, eqF, eqOk, eqPr, enF, notF, ngF, cvF, csF, csbF, lenF, lenSF, ixF, iaF, PX.slot, iaAF, faF, ldF, D.mem, stF, bxF, mkSF, boundF, fldF, mmF2, D.plain, D.isPure, optAll, D.dull, callVF, splice, D.cells, D.one, sets, resT, D.flat, D.flat0, D.simple, Nat.reduceBNe, Nat.reduceLT, reduceIte, Nat.reduceEqDiff, Nat.reduceAdd, Nat.reduceMul, Nat.reduceSub, Nat.reduceLeDiff, Int.reduceToNat, Int.reduceLT, Int.reduceLE, Int.reduceEq, Int.reduceNeg, Int.reduceSub, Int.reduceAdd, Int.reduceMul]
  refine callF_of g4 ?_
  simp only [evA, evB, evC, forall_const, implies_true, initE, stepF, D.clean, mvF, moF, tkF, shF, ariF, ciF, catF, scF, ebF, eqF, eqOk, eqPr, enF, notF, ngF, cvF, csF, csbF, lenF, lenSF, ixF, iaF, PX.slot, iaAF, faF, ldF, D.mem, stF, bxF, mkSF, boundF, fldF, mmF2, D.plain, D.isPure, optAll, D.dull, callVF, splice, D.cells, D.one, sets, resT, D.flat, D.flat0, D.simple, Nat.reduceBNe, Nat.reduceLT, reduceIte, Nat.reduceEqDiff, Nat.reduceAdd, Nat.reduceMul, Nat.reduceSub, Nat.reduceLeDiff, Int.reduceToNat, Int.reduceLT, Int.reduceLE, Int.reduceEq, Int.reduceNeg, Int.reduceSub, Int.reduceAdd, Int.reduceMul]

theorem Tryz.c7S (p : Pl) (hp : p.ok) (n : Int) (hl : p.make.length < 3) : Con Tryz.prog Tryz.L 7 [p.d, .int .u8 n] (.bool true) := by
  refine rule7 Tryz.hL rfl rfl rfl ?_
  simp only [pc7, rs7, Pl.d, evA, evB, evC, forall_const, implies_true, initE, stepF, D.clean, mvF, moF, tkF, shF, ariF, ciF, catF, scF, ebF, eqF, eqOk, eqPr, enF, notF, ngF, cvF, csF, csbF, lenF, lenSF, ixF, iaF, PX.slot, iaAF, faF, ldF, D.mem, stF, bxF, mkSF, boundF, fldF, mmF2, D.plain, D.isPure, optAll, D.dull, callVF, splice, D.cells, D.one, sets, resT, D.flat, D.flat0, D.simple, Nat.reduceBNe, Nat.reduceLT, reduceIte, Nat.reduceEqDiff, Nat.reduceAdd, Nat.reduceMul, Nat.reduceSub, Nat.reduceLeDiff, Int.reduceToNat, Int.reduceLT, Int.reduceLE, Int.reduceEq, Int.reduceNeg, Int.reduceSub, Int.reduceAdd, Int.reduceMul]
  refine callF_of Tryz.c11 ?_
  simp only [evA, evB, evC, forall_const, implies_true, initE, stepF, D.clean, mvF, moF, tkF, shF, ariF, ciF, catF, scF, ebF, eqF, eqOk, eqPr, enF, notF, ngF, cvF, csF, csbF, lenF, lenSF, ixF, iaF, PX.slot, iaAF, faF, ldF, D.mem, stF, bxF, mkSF, boundF, fldF, mmF2, D.plain, D.isPure, optAll, D.dull, callVF, splice, D.cells, D.one, sets, resT, D.flat, D.flat0, D.simple, Nat.reduceBNe, Nat.reduceLT, reduceIte, Nat.reduceEqDiff, Nat.reduceAdd, Nat.reduceMul, Nat.reduceSub, Nat.reduceLeDiff, Int.reduceToNat, Int.reduceLT, Int.reduceLE, Int.reduceEq, Int.reduceNeg, Int.reduceSub, Int.reduceAdd, Int.reduceMul]
  have h12 := Tryz.c12 p hp
  simp only [Pl.d] at h12
  refine callF_of h12 ?_
  generalize p.make = l at hl
  simp only [evA, evB, evC, forall_const, implies_true, initE, stepF, D.clean, mvF, moF, tkF, shF, ariF, ciF, catF, scF, ebF, eqF, eqOk, eqPr, enF, notF, ngF, cvF, csF, csbF, lenF, lenSF, ixF, iaF, PX.slot, iaAF, faF, ldF, D.mem, stF, bxF, mkSF, boundF, fldF, mmF2, D.plain, D.isPure, optAll, D.dull, callVF, splice, D.cells, D.one, sets, resT, D.flat, D.flat0, D.simple, Nat.reduceBNe, Nat.reduceLT, reduceIte, Nat.reduceEqDiff, Nat.reduceAdd, Nat.reduceMul, Nat.reduceSub, Nat.reduceLeDiff, Int.reduceToNat, Int.reduceLT, Int.reduceLE, Int.reduceEq, Int.reduceNeg, Int.reduceSub, Int.reduceAdd, Int.reduceMul]
  exact fun h => by omega

theorem Tryz.c7 (p : Pl) (hp : p.ok) (n : Int) (hn : isByte n) : Con Tryz.prog Tryz.L 7 [p.d, .int .u8 n] (.bool true) := by
  rcases Nat.lt_or_ge p.make.length 3 with h | h
  · exact Tryz.c7S p hp n h
  · have h4 := p.make_ok.len
    rcases hm : p.make with _ | ⟨x, _ | ⟨y, _ | ⟨z, _ | ⟨w, _ | ⟨v, l⟩⟩⟩⟩⟩
    all_goals rw [hm] at h h4
    · simp at h
    · simp at h
    · simp at h
    · exact Tryz.c7A p hp n hn x y z hm (Int.tmod_one n)
    · have h2 : n.tmod 2 = 0 ∨ n.tmod 2 = 1 := by rw [tmod_nn hn.1]; omega
      rcases h2 with h2 | h2
      · exact Tryz.c7B p hp n hn x y z w hm h2
      · exact Tryz.c7C p hp n hn x y z w hm h2
    · simp only [List.length_cons] at h4; omega
end Go.Proofs
