/-
 ARITHMETIC: integer.small, integer.divide. Own work.
-/
import Derived.Test.YtkfmblmamoofjaaGreatDoorPj
import Derived.Test.YtkfmblmamoofjaaGreatDoorSa
import Derived.Test.YtkfmblmamoofjaaGreatDoorSb
import Derived.Test.YtkfmblmamoofjaaGreatDoorSc
set_option linter.unusedVariables false
set_option linter.unusedSimpArgs false
namespace Go.Proofs
open Go Go.Pi Go.RowKit Go.Ar

theorem Tryz.small (a : List Int) (d : Int) (ha : a.length ≤ 100000) (da : isD big a) (hd : 0 ≤ d ∧ d < big) :
  Con Tryz.prog Tryz.L 113 [.sl a.length (ints .u64 a), .int .u64 d] (.sl (pcs (vl big a * d).toNat).length (ints .u64 (pcs (vl big a * d).toNat))) := by
 refine rule113 Tryz.hL rfl rfl rfl ?_
 (simp only [pc113, rs113, oU, oC]; refine ev ?_; try exact ⟨⟩)
 have h1 : isD big [d] := fun x hx => by rw [List.mem_singleton.1 hx]; exact hd
 have ht := Tryz.trim [d] (by simp)
 have hc : isD big (cutz [d]) := cutz_isD h1
 have hl : (cutz [d]).length ≤ 1 := cutz_length [d]
 have hv : vl big (cutz [d]) = d := by rw [cutz_vl]; simp [vl]
 have hm := Tryz.times a (cutz [d]) ha (by omega) da hc
 rw [hv] at hm
 refine callF_of ht ?_
 (refine ev ?_; try exact ⟨⟩)
 refine callF_of hm ?_
 (refine ev ?_; try exact ⟨⟩)

theorem pcs_zero : pcs 0 = [] := dgs_zero _
theorem pcs_one {n : Nat} (h : (pcs n).length = 1) : pcs n = [(n : Int)] ∧ 0 < n ∧ n < 1000000000 := by
 obtain ⟨x, hx⟩ := List.length_eq_one_iff.1 h
 have h1 := pcs_vl n
 have h2 := pcs_isD n
 rw [hx] at h1 h2
 have h3 := (h2 x (by simp)).2
 simp only [vl, Int.mul_zero, Int.add_zero, big] at h1 h3
 refine ⟨by rw [hx, h1], ?_, by omega⟩
 rcases Nat.eq_zero_or_pos n with h0 | h0
 ·subst h0; rw [pcs_zero] at h; cases h
 ·exact h0
theorem pcs_small {n : Nat} (h0 : 0 < n) (h : n < 1000000000) : pcs n = [(n : Int)] := by
 unfold pcs
 rw [dgs_pos (by decide) h0, Nat.mod_eq_of_lt h, Nat.div_eq_of_lt h, dgs_zero]
theorem div_step {q a : List Int} {j : Nat} {b r x V : Int} (hb : 0 < b) (hb1 : b < big) (hr : 0 ≤ r ∧ r < b) (hx : 0 ≤ x ∧ x < big) (hj : j < q.length) (hq : q.getD j 0 = 0)
  (hv : vl big q * b + big ^ (j + 1) * r + (V + big ^ j * x) = vl big a) :
  (0 ≤ r * big ∧ r * big ≤ 18446744073709551615) ∧ (0 ≤ r * big + x ∧ r * big + x ≤ 18446744073709551615) ∧ (0 ≤ (r * big + x) / b ∧ (r * big + x) / b < big) ∧ (0 ≤ (r * big + x) % b ∧ (r * big + x) % b < b) ∧
  vl big (q.set j ((r * big + x) / b)) * b + big ^ j * ((r * big + x) % b) + V = vl big a := by
 have e0 : r * big = r * 1000000000 := rfl
 refine ⟨⟨Int.mul_nonneg hr.1 (by decide), by simp only [big] at *; omega⟩, ⟨by simp only [big] at *; omega, by simp only [big] at *; omega⟩, ⟨Int.ediv_nonneg (by simp only [big] at *; omega) (by omega), Int.ediv_lt_of_lt_mul hb (by simp only [big] at *; omega)⟩, ⟨Int.emod_nonneg _ (by omega), Int.emod_lt_of_pos _ hb⟩, ?_⟩
 rw [vl_set hj, hq, Int.sub_zero, Int.add_mul]
 have e := Int.emod_add_mul_ediv (r * big + x) b
 generalize (r * big + x) / b = d at e
 generalize (r * big + x) % b = t at e
 have e1 : big ^ j * d * b + big ^ j * t = big ^ j * (r * big + x) := by rw [← e, Int.mul_add, Int.mul_assoc, Int.mul_comm d b]; omega
 have e2 : big ^ j * (r * big + x) = big ^ (j + 1) * r + big ^ j * x := by rw [Int.mul_add, Int.pow_succ, Int.mul_assoc, Int.mul_comm r big]
 omega

set_option maxHeartbeats 4000000 in
theorem Tryz.divide1 (m n : Nat) (hm : (pcs m).length ≤ 90000) (hn : (pcs n).length ≤ 90000) (h0 : m < n ∨ (pcs n).length = 1) :
  Con Tryz.prog Tryz.L 86 [.sl (pcs m).length (ints .u64 (pcs m)), .sl (pcs n).length (ints .u64 (pcs n))] (.tup [.sl (pcs (m / n)).length (ints .u64 (pcs (m / n))), .sl (pcs (m % n)).length (ints .u64 (pcs (m % n)))]) := by
 refine rule86 Tryz.hL (fun q hq => by simp [PC.backs, pc86] at hq; subst hq; exact back135) rfl rfl rfl ?_
 (simp only [pc86, rs86, oU, oC]; refine ev ?_; try exact ⟨⟩)
 refine callF_of (Tryz.order m n (by omega) (by omega)) ?_
 (refine ev ?_; try exact ⟨⟩)
 have c0 : cmpN m n < 0 ↔ m < n := by unfold cmpN; split <;> (try split) <;> omega
 refine ⟨fun h1 => ?_, fun h1 => ⟨fun h2 => ?_, fun h2 => ?_⟩⟩
 ·have h1 := c0.1 h1
  rw [Nat.div_eq_of_lt h1, Nat.mod_eq_of_lt h1, pcs_zero]
  simp [resD_two, rvD, lk, D.plain, D.isPure, optAll, ofCells, D.one, ints]
 ·obtain ⟨hx, hp, hlt⟩ := pcs_one (show (pcs n).length = 1 by omega)
  rw [hx]
  have ha := pcs_isD m
  have va := pcs_vl m
  have hL : (pcs m).length ≤ 90000 := hm
  generalize pcs m = a at *
  refine ⟨⟨by omega, by omega, by omega, by omega⟩, ?_⟩
  refine callF_of (Tryz.c112 _ _) ?_
  (refine ev ?_; try exact ⟨⟩)
  rw [repl_ints]
  refine rfnF_of (fun k E => ∃ (q : List Int) (r : Int), k ≤ a.length ∧ q.length = a.length ∧ isD big q ∧ 0 ≤ r ∧ r < n ∧ (∀ i, i < a.length - k → q.getD i 0 = 0) ∧
    vl big q * n + big ^ (a.length - k) * r + vl big (a.take (a.length - k)) = vl big a ∧
    E = [(3, .box true [.sl 1 [.int .u64 n]]), (4, .gbox 1000004), (6, .box true [.int .u64 r]), (26, .clo 135 [.pt [.sl a.length (ints .u64 a)]]), (1000004, .own true 107 a.length (ints .u64 q))])
   (by rw [ints_length, Nat.mul_one]) ⟨List.replicate a.length 0, 0, by omega, List.length_replicate, isD_repl _, by omega, by omega, fun i hi => by rw [List.getD_eq_getElem?_getD, List.getElem?_replicate]; split <;> rfl, by rw [vl_repl, Nat.sub_zero, List.take_length]; simp, rfl⟩ (fun k E1 hE => by obtain ⟨_, _, _, _, _, _, _, _, _, rfl⟩ := hE; rfl) ?_ ?_
  ·rintro _ ⟨q, r, _, hql, hqd, hr0, hr1, _, hv, rfl⟩
   (refine ev ?_; try exact ⟨⟩)
   rw [Nat.sub_self] at hv
   simp only [List.take_zero, vl, Int.pow_zero, Int.one_mul, Int.add_zero] at hv
   have hq0 := vl_nonneg (B := big) (by decide) hqd
   obtain ⟨u, hu⟩ : ∃ u : Nat, vl big q = u := ⟨(vl big q).toNat, by omega⟩
   obtain ⟨v, rfl⟩ : ∃ v : Nat, r = v := ⟨r.toNat, by omega⟩
   have e : m = u * n + v := by
    have : ((u * n + v : Nat) : Int) = m := by rw [Int.natCast_add, Int.natCast_mul, ← hu, hv, va]
    omega
   have e1 : m / n = u := by rw [e, Nat.add_comm, Nat.add_mul_div_right _ _ hp, Nat.div_eq_of_lt (by omega), Nat.zero_add]
   have e2 : m % n = v := by rw [e, Nat.add_comm, Nat.add_mul_mod_self_right, Nat.mod_eq_of_lt (by omega)]
   have ht := Tryz.trim q (by omega)
   rw [cutz_eq (B := 1000000000) (by decide) hqd, show vl ((1000000000 : Nat) : Int) q = (u : Int) from hu, Int.toNat_natCast, hql] at ht
   have hd2 : isD big [(v : Int)] := fun x hx => by rw [List.mem_singleton.1 hx]; exact ⟨by omega, by simp only [big]; omega⟩
   have ht2 := Tryz.trim [(v : Int)] (by simp)
   rw [cutz_eq (B := 1000000000) (by decide) hd2, show (vl ((1000000000 : Nat) : Int) [(v : Int)]).toNat = v by simp [vl]] at ht2
   refine callF_of ht ?_
   (refine ev ?_; try exact ⟨⟩)
   refine callF_of ht2 ?_
   (refine ev ?_; try exact ⟨⟩)
   rw [e1, e2]
   simp [resD_two, rvD, lk, D.plain, D.isPure, optAll, ofCells, D.one, ints]
  ·rintro k _ hkm ⟨q, r, hk, hql, hqd, hr0, hr1, hz, hv, rfl⟩
   obtain ⟨j, hj⟩ : ∃ j, a.length - k = j + 1 := ⟨a.length - k - 1, by omega⟩
   have hj2 : a.length - 1 - k = j := by omega
   have hj3 : a.length - (k + 1) = j := by omega
   rw [hj] at hv hz
   rw [hj2, hj3, Nat.mul_one]
   have hx2 := isD_getD (by decide) ha j
   have hxa := vl_take (B := big) (l := a) (k := j) (by omega)
   have hcell : (ints .u64 a).drop j = .int .u64 (a.getD j 0) :: (ints .u64 a).drop (j + 1) := by
    rw [List.drop_eq_getElem_cons (by rw [ints_length]; omega)]
    congr 1
    simp [ints, List.getD_eq_getElem?_getD, List.getElem?_eq_getElem (show j < a.length by omega)]
   rw [hxa] at hv
   generalize a.getD j 0 = x at hx2 hcell hv
   obtain ⟨b1, b2, b3, b4, st⟩ := div_step (by omega) (by simp only [big]; omega) ⟨hr0, hr1⟩ hx2 (by omega) (hz j (by omega)) hv
   refine ⟨_, by rw [hcell]; rfl, rfl, ?_⟩
   simp only [evX, evY, evZ, forall_const, implies_true, initE, stepF, D.clean, mvF, moF, tkF, shF, ariF, ciF, catF, scF, ebF, eqF, eqOk, eqPr, enF, notF, ngF, cvF, csF, csbF, lenF, lenSF, ixF, iaF, PX.slot, iaAF, faF, ldF, D.mem, stF, bxF, mkSF, boundF, fldF, ixAF, mmF2, D.plain, D.isPure, optAll, D.dull, callVF, splice, D.cells, D.one, sets, resT, D.flat, D.flat0, D.simple, Nat.reduceBNe, Nat.reduceLT, reduceIte, Nat.reduceEqDiff, Nat.reduceAdd, Nat.reduceMul, Nat.reduceSub, Nat.reduceLeDiff, Int.reduceToNat, Int.reduceLT, Int.reduceLE, Int.reduceEq, Int.reduceNeg, Int.reduceSub, Int.reduceAdd, Int.reduceMul, stG_own, List.length_set]
   have q1 : Int.tdiv (r * 1000000000 + x) n = (r * big + x) / n := Int.tdiv_eq_ediv_of_nonneg b2.1
   have q2 : Int.tmod (r * 1000000000 + x) n = (r * big + x) % n := Int.tmod_eq_emod_of_nonneg b2.1
   rw [q1, q2]
   have hz2 : ∀ i, i < j → (q.set j ((r * big + x) / n)).getD i 0 = 0 := fun i hi => by
    rw [List.getD_eq_getElem?_getD, List.getElem?_set_ne (by omega), ← List.getD_eq_getElem?_getD]
    exact hz i (by omega)
   have hd1 := isD_set (j := j) hqd b3
   generalize (r * big + x) / n = d at *
   generalize (r * big + x) % n = t at *
   simp only [big] at b1 b2 b3
   and_intros <;> try omega
   exact ⟨q.set j d, t, by omega, by rw [List.length_set]; exact hql, hd1, b4.1, b4.2, hz2, st, rfl, rfl⟩
 ·omega
end Go.Proofs

/-
 ARITHMETIC: pieces of numbers in plain Nat; contracts by numbers. Own work.
-/
namespace Go.Proofs
open Go Go.Pi Go.RowKit Go.Ar

theorem pcs_cons {n : Nat} (h : 0 < n) : pcs n = ((n % 1000000000 : Nat) : Int) :: pcs (n / 1000000000) := dgs_pos (by decide) h
theorem pcs_drop (n j : Nat) : (pcs n).drop j = pcs (n / 1000000000 ^ j) := by
 induction j generalizing n with
 | zero => simp
 | succ j ih =>
   rcases Nat.eq_zero_or_pos n with h | h
   ·subst h; rw [Nat.zero_div, pcs_zero, List.drop_nil]
   ·rw [pcs_cons h, List.drop_succ_cons, ih, Nat.div_div_eq_div_mul, Nat.pow_succ, Nat.mul_comm (1000000000 ^ j)]
theorem pcs_getD (n j : Nat) : (pcs n).getD j 0 = ((n / 1000000000 ^ j % 1000000000 : Nat) : Int) := by
 have h := pcs_drop n j
 rcases Nat.eq_zero_or_pos (n / 1000000000 ^ j) with h0 | h0
 ·rw [h0, pcs_zero] at h
  rw [h0, List.getD_eq_getElem?_getD, List.getElem?_eq_none (by have := congrArg List.length h; simp at this; omega)]; rfl
 ·rw [pcs_cons h0] at h
  have := congrArg List.head? h
  rw [List.head?_drop] at this
  rw [List.getD_eq_getElem?_getD, this]; rfl
theorem pcs_len_le {n k : Nat} (h : n < 1000000000 ^ k) : (pcs n).length ≤ k := dgs_len (by decide) h
theorem pcs_lt (n : Nat) : n < 1000000000 ^ (pcs n).length := by
 have h := vl_lt (B := big) (by decide) (pcs_isD n)
 rw [pcs_vl] at h
 have e : big ^ (pcs n).length = ((1000000000 ^ (pcs n).length : Nat) : Int) := by rw [Int.natCast_pow]; rfl
 rw [e] at h; exact Int.ofNat_lt.1 h
theorem pcs_len_mono {m n : Nat} (h : m ≤ n) : (pcs m).length ≤ (pcs n).length := pcs_len_le (Nat.lt_of_le_of_lt h (pcs_lt n))
theorem pcs_len_pos {n : Nat} (h : 0 < n) : 0 < (pcs n).length := by rw [pcs_cons h]; simp
theorem pcs_le {n : Nat} (h : 0 < n) : 1000000000 ^ ((pcs n).length - 1) ≤ n := by
 rcases Nat.lt_or_ge n (1000000000 ^ ((pcs n).length - 1)) with h1 | h1
 ·have := pcs_len_le h1; have := pcs_len_pos h; omega
 ·exact h1
/-- the uppermost piece -/
theorem pcs_top {n : Nat} (h : 0 < n) : (pcs n).getD ((pcs n).length - 1) 0 = ((n / 1000000000 ^ ((pcs n).length - 1) : Nat) : Int) ∧ 0 < n / 1000000000 ^ ((pcs n).length - 1) ∧ n / 1000000000 ^ ((pcs n).length - 1) < 1000000000 := by
 have h1 := pcs_le h
 have h2 := pcs_lt n
 have h3 := pcs_len_pos h
 have hp : 0 < 1000000000 ^ ((pcs n).length - 1) := Nat.pow_pos (by decide)
 have h4 : n / 1000000000 ^ ((pcs n).length - 1) < 1000000000 := by
  rw [Nat.div_lt_iff_lt_mul hp]
  have e : (pcs n).length = (pcs n).length - 1 + 1 := by omega
  rw [e, Nat.pow_succ] at h2
  rw [Nat.mul_comm]; exact h2
 exact ⟨by rw [pcs_getD, Nat.mod_eq_of_lt h4], Nat.div_pos h1 hp, h4⟩
theorem pcs_trim_cons (x r : Nat) (hx : x < 1000000000) : cutz ((x : Int) :: pcs r) = pcs (x + 1000000000 * r) := by
 have hd : isD big ((x : Int) :: pcs r) := by
  intro y hy
  rcases List.mem_cons.1 hy with rfl | hy
  ·exact ⟨by omega, by simp only [big]; omega⟩
  ·exact pcs_isD r y hy
 have := cutz_eq (B := 1000000000) (by decide) hd
 rw [this]
 congr 1
 have e : vl ((1000000000 : Nat) : Int) (pcs r) = r := pcs_vl r
 simp only [vl, e]
 omega
theorem pcs_len_mul {m f k l : Nat} (hm : (pcs m).length ≤ k) (hf : (pcs f).length ≤ l) : (pcs (m * f)).length ≤ k + l := by
 refine pcs_len_le ?_
 have h1 := pcs_lt m
 have h2 := pcs_lt f
 have h3 : m < 1000000000 ^ k := Nat.lt_of_lt_of_le h1 (Nat.pow_le_pow_right (by decide) hm)
 have h4 : f < 1000000000 ^ l := Nat.lt_of_lt_of_le h2 (Nat.pow_le_pow_right (by decide) hf)
 rw [Nat.pow_add]
 exact Nat.mul_lt_mul'' h3 h4
theorem pcs_len_add {m n k : Nat} (hm : (pcs m).length ≤ k) (hn : (pcs n).length ≤ k) : (pcs (m + n)).length ≤ k + 1 := by
 refine pcs_len_le ?_
 have h3 : m < 1000000000 ^ k := Nat.lt_of_lt_of_le (pcs_lt m) (Nat.pow_le_pow_right (by decide) hm)
 have h4 : n < 1000000000 ^ k := Nat.lt_of_lt_of_le (pcs_lt n) (Nat.pow_le_pow_right (by decide) hn)
 rw [Nat.pow_succ]; omega
theorem pcs_len_one {f : Nat} (h : f < 1000000000) : (pcs f).length ≤ 1 := pcs_len_le (by simpa using h)
/-- the estimate of a digit is not too small -/
theorem est {r b c : Nat} (hc : 0 < c) (hb : 0 < b / c) : r / b ≤ r / c / (b / c) := by
 rw [Nat.le_div_iff_mul_le hb, Nat.le_div_iff_mul_le hc]
 have h1 : b / c * c ≤ b := Nat.div_mul_le_self b c
 have h2 : r / b * b ≤ r := Nat.div_mul_le_self r b
 calc r / b * (b / c) * c = r / b * (b / c * c) := Nat.mul_assoc ..
  _ ≤ r / b * b := Nat.mul_le_mul_left _ h1
  _ ≤ r := h2

/-- a number's slice -/
abbrev num (n : Nat) : D := .sl (pcs n).length (ints .u64 (pcs n))

theorem Tryz.n_small (m d : Nat) (hm : (pcs m).length ≤ 100000) (hd : d < 1000000000) : Con Tryz.prog Tryz.L 113 [num m, .int .u64 d] (num (m * d)) := by
 have h := Tryz.small (pcs m) d hm (pcs_isD m) ⟨by omega, by simp only [big]; omega⟩
 rw [pcs_vl, show ((m : Int) * d).toNat = m * d by rw [← Int.natCast_mul, Int.toNat_natCast]] at h
 exact h
theorem Tryz.n_times (m n : Nat) (hm : (pcs m).length ≤ 100000) (hn : (pcs n).length ≤ 100000) : Con Tryz.prog Tryz.L 88 [num m, num n] (num (m * n)) := by
 have h := Tryz.times (pcs m) (pcs n) hm hn (pcs_isD m) (pcs_isD n)
 rw [pcs_vl, pcs_vl, show ((m : Int) * n).toNat = m * n by rw [← Int.natCast_mul, Int.toNat_natCast]] at h
 exact h
theorem Tryz.n_plus (m n : Nat) (hm : (pcs m).length ≤ 100000) (hn : (pcs n).length ≤ 100000) : Con Tryz.prog Tryz.L 97 [num m, num n] (num (m + n)) := by
 have h := Tryz.plus (pcs m) (pcs n) hm hn (pcs_isD m) (pcs_isD n)
 rw [pcs_vl, pcs_vl, show ((m : Int) + n).toNat = m + n by omega] at h
 exact h
theorem Tryz.n_minus (m n : Nat) (hm : (pcs m).length ≤ 100000) (hn : n ≤ m) : Con Tryz.prog Tryz.L 99 [num m, num n] (num (m - n)) := by
 have h := Tryz.minus (pcs m) (pcs n) hm (pcs_len_mono hn) (pcs_isD m) (pcs_isD n) (by rw [pcs_vl, pcs_vl]; omega)
 rw [pcs_vl, pcs_vl, show ((m : Int) - n).toNat = m - n by omega] at h
 exact h
end Go.Proofs

/-
 ARITHMETIC: integer.divide. Own work.
-/
namespace Go.Proofs
open Go Go.Pi Go.RowKit Go.Ar

/-- the estimated digit -/
theorem dmin {R B c T : Nat} (hc : 0 < c) (hT : B / c = T) (h0 : 0 < T) (hB : 0 < B) (hR : R < B * 1000000000) :
  ∃ d : Nat, (if (999999999 : Int) < Int.tdiv ((R / c : Nat) : Int) T then (999999999 : Int) else Int.tdiv ((R / c : Nat) : Int) T) = d ∧ R / B ≤ d ∧ d < 1000000000 := by
 have h1 := est (r := R) (b := B) hc (by rw [hT]; exact h0)
 rw [hT] at h1
 have h2 : R / B < 1000000000 := Nat.div_lt_of_lt_mul hR
 have e : Int.tdiv ((R / c : Nat) : Int) T = ((R / c / T : Nat) : Int) := by rw [Int.tdiv_eq_ediv_of_nonneg (Int.natCast_nonneg _)]; rfl
 rw [e]
 generalize R / c / T = y at *
 generalize R / B = z at *
 split
 ·exact ⟨999999999, rfl, by omega, by omega⟩
 ·exact ⟨y, rfl, by omega, by omega⟩
theorem td_bound {Rc T : Nat} (h : Rc < 1000000000000000000) : (0 : Int) ≤ Int.tdiv (Rc : Int) T ∧ Int.tdiv (Rc : Int) T ≤ 18446744073709551615 := by
 rw [Int.tdiv_eq_ediv_of_nonneg (by omega)]
 have h7 : Rc / T ≤ Rc := Nat.div_le_self _ _
 have h8 : ((Rc : Int) / (T : Int)) = ((Rc / T : Nat) : Int) := rfl
 rw [h8]
 generalize Rc / T = y at *
 omega
theorem top_one {R k : Nat} (hR : 0 < R) (h : (pcs R).length = k) : (pcs R).getD (k - 1) 0 = ((R / 1000000000 ^ (k - 1) : Nat) : Int) ∧ R / 1000000000 ^ (k - 1) < 1000000000 := by
 subst h
 obtain ⟨h1, h2, h3⟩ := pcs_top hR
 exact ⟨h1, h3⟩
theorem top_two {R k : Nat} (hR : 0 < R) (hk : 0 < k) (h : (pcs R).length = k + 1) :
  ∃ a b : Nat, (pcs R).getD k 0 = a ∧ (pcs R).getD (k - 1) 0 = b ∧ a < 1000000000 ∧ b < 1000000000 ∧ a * 1000000000 + b = R / 1000000000 ^ (k - 1) := by
 obtain ⟨h1, h2, h3⟩ := pcs_top hR
 rw [h, Nat.add_sub_cancel] at h1 h3
 refine ⟨_, _, h1, pcs_getD R (k - 1), h3, Nat.mod_lt _ (by decide), ?_⟩
 have e : R / 1000000000 ^ k = R / 1000000000 ^ (k - 1) / 1000000000 := by
  rw [Nat.div_div_eq_div_mul, ← Nat.pow_succ, show (k - 1).succ = k by omega]
 rw [e, Nat.mul_comm]
 exact Nat.div_add_mod _ _

set_option maxHeartbeats 8000000 in
theorem Tryz.divide (m n : Nat) (hm : (pcs m).length ≤ 90000) (hn : (pcs n).length ≤ 90000) (h0 : 0 < n) :
  Con Tryz.prog Tryz.L 86 [num m, num n] (.tup [num (m / n), num (m % n)]) := by
 by_cases hs : m < n ∨ (pcs n).length = 1
 ·exact Tryz.divide1 m n hm hn hs
 obtain ⟨hs1, hs2⟩ := not_or.1 hs
 have hlen := pcs_len_pos h0
 obtain ⟨ht1, ht2, ht3⟩ := pcs_top h0
 have key : 1000000000 ^ ((pcs n).length - 1) * (n / 1000000000 ^ ((pcs n).length - 1)) ≤ n := Nat.mul_div_le _ _
 have key2 : n < 1000000000 ^ ((pcs n).length - 1) * (n / 1000000000 ^ ((pcs n).length - 1) + 1) := by
  rw [Nat.mul_add, Nat.mul_one]; have h1 := Nat.div_add_mod n (1000000000 ^ ((pcs n).length - 1)); have h2 := Nat.mod_lt n (show 0 < 1000000000 ^ ((pcs n).length - 1) from Nat.pow_pos (by decide)); omega
 have hf1 : 0 < 1000000000 / (n / 1000000000 ^ ((pcs n).length - 1) + 1) := Nat.div_pos (by omega) (by omega)
 have hf2 : 1000000000 / (n / 1000000000 ^ ((pcs n).length - 1) + 1) ≤ 500000000 := by
  have : 1000000000 / (n / 1000000000 ^ ((pcs n).length - 1) + 1) ≤ 1000000000 / 2 := Nat.div_le_div_left (by omega) (by decide)
  omega
 -- the scaled divisor has as many pieces
 have hf3 : n * (1000000000 / (n / 1000000000 ^ ((pcs n).length - 1) + 1)) < 1000000000 ^ (pcs n).length := by
  have e : (pcs n).length = (pcs n).length - 1 + 1 := by omega
  have h1 : n * (1000000000 / (n / 1000000000 ^ ((pcs n).length - 1) + 1)) < 1000000000 ^ ((pcs n).length - 1) * (n / 1000000000 ^ ((pcs n).length - 1) + 1) * (1000000000 / (n / 1000000000 ^ ((pcs n).length - 1) + 1)) := Nat.mul_lt_mul_of_pos_right key2 hf1
  have h2 : (n / 1000000000 ^ ((pcs n).length - 1) + 1) * (1000000000 / (n / 1000000000 ^ ((pcs n).length - 1) + 1)) ≤ 1000000000 := Nat.mul_div_le _ _
  rw [e, Nat.pow_succ, ← e]
  refine Nat.lt_of_lt_of_le h1 ?_
  rw [Nat.mul_assoc]
  exact Nat.mul_le_mul_left _ h2
 refine rule86 Tryz.hL (fun q hq => by simp [PC.backs, pc86] at hq; subst hq; exact back135) rfl rfl rfl ?_
 (simp only [pc86, rs86, oU, oC]; refine ev ?_; try exact ⟨⟩)
 refine callF_of (Tryz.order m n (by omega) (by omega)) ?_
 (refine ev ?_; try exact ⟨⟩)
 have c0 : cmpN m n < 0 ↔ m < n := by unfold cmpN; split <;> (try split) <;> omega
 refine ⟨fun h1 => absurd (c0.1 h1) hs1, fun h1 => ⟨fun h2 => absurd (by omega) hs2, fun h2 => ?_⟩⟩
 rw [show (((pcs n).length : Int) - 1).toNat = (pcs n).length - 1 by omega, ht1]
 generalize ht : n / 1000000000 ^ ((pcs n).length - 1) = top at *
 rw [show Int.tdiv 1000000000 ((top : Int) + 1) = ((1000000000 / (top + 1) : Nat) : Int) by rw [Int.tdiv_eq_ediv_of_nonneg (by decide)]; rfl]
 generalize hf : 1000000000 / (top + 1) = f at *
 have lf := pcs_len_one (f := f) (by omega)
 have lm := pcs_len_mul hm lf
 have ln : (pcs (n * f)).length = (pcs n).length := by
  have h1 := pcs_len_le hf3
  have h2 := pcs_len_mono (m := n) (n := n * f) (Nat.le_mul_of_pos_right _ hf1)
  omega
 and_intros <;> try omega
 refine callF_of (Tryz.n_small m f (by omega) (by omega)) ?_
 (refine ev ?_; try exact ⟨⟩)
 refine callF_of (Tryz.n_small n f (by omega) (by omega)) ?_
 ((try simp only [num]); refine ev ?_; try exact ⟨⟩)
 rw [repl_ints]
 have hb0 : 0 < n * f := Nat.mul_pos h0 hf1
 obtain ⟨hu1, hu2, hu3⟩ := pcs_top hb0
 rw [show (((pcs (n * f)).length : Int) - 1).toNat = (pcs (n * f)).length - 1 by omega, hu1]
 have fin1 : m * f / (n * f) = m / n := Nat.mul_div_mul_right _ _ hf1
 have fin2 : m * f % (n * f) = m % n * f := Nat.mul_mod_mul_right ..
 generalize hA : m * f = A at *
 generalize hB : n * f = B at *
 generalize hT : B / 1000000000 ^ ((pcs B).length - 1) = T at *
 and_intros <;> try omega
 refine loopF_of (fun E => ∃ (i : Nat) (q : List Int) (r : Nat) (d5 : D), (d5 = num r ∨ d5 = .own true 107 0 [] ∧ r = 0 ∧ i = (pcs A).length) ∧ i ≤ (pcs A).length ∧ q.length = (pcs A).length ∧ isD big q ∧ r < B ∧ (∀ k, k < i → q.getD k 0 = 0) ∧
   vl big q * B + big ^ i * r + vl big ((pcs A).take i) = A ∧
   E = [(0, num A), (3, .box true [num B]), (4, .gbox 1000004), (5, d5), (9, .int .u64 f), (10, .int .u64 T), (11, .int .i64 ((i : Int) - 1)), (1000004, .own true 107 (pcs A).length (ints .u64 q))])
  (fun E => match lk E 11 with | .int _ i => (i + 1).toNat | _ => 0)
  ⟨(pcs A).length, List.replicate (pcs A).length 0, 0, _, .inr ⟨rfl, rfl, rfl⟩, Nat.le_refl _, List.length_replicate, isD_repl _, hb0, fun i hi => by rw [List.getD_eq_getElem?_getD, List.getElem?_replicate]; split <;> rfl, by rw [vl_repl, List.take_length, pcs_vl]; simp, rfl⟩ ?_
 rintro _ ⟨i, q, r, d5, h5, hi, hql, hqd, hr, hz, hv, rfl⟩
 have hpost : i = 0 → r = A % B ∧ vl big q = ((A / B : Nat) : Int) := by
  rintro rfl
  simp only [List.take_zero, vl, Int.pow_zero, Int.one_mul, Int.add_zero] at hv
  have hq0 := vl_nonneg (B := big) (by decide) hqd
  obtain ⟨u, hu⟩ : ∃ u : Nat, vl big q = u := ⟨(vl big q).toNat, by omega⟩
  have e : A = u * B + r := by
   have : ((u * B + r : Nat) : Int) = A := by rw [Int.natCast_add, Int.natCast_mul, ← hu, hv]
   omega
  rw [hu, e]
  exact ⟨by rw [Nat.add_comm, Nat.add_mul_mod_self_right, Nat.mod_eq_of_lt hr], by rw [Nat.add_comm, Nat.add_mul_div_right _ _ hb0, Nat.div_eq_of_lt hr, Nat.zero_add]⟩
 have hround : ∀ j, i = j + 1 → ∃ x : Nat, x < 1000000000 ∧ (pcs A).getD j 0 = x ∧ cutz ((x : Int) :: pcs r) = pcs (x + 1000000000 * r) ∧ vl big q * B + big ^ j * ((x + 1000000000 * r : Nat) : Int) + vl big ((pcs A).take j) = A ∧ x + 1000000000 * r < B * 1000000000 := by
  rintro j rfl
  have hx := isD_getD (B := big) (by decide) (pcs_isD A) j
  have hxa := vl_take (B := big) (l := pcs A) (k := j) (by omega)
  obtain ⟨x, hx3⟩ : ∃ x : Nat, (pcs A).getD j 0 = x := ⟨((pcs A).getD j 0).toNat, by omega⟩
  rw [hx3] at hx hxa
  have hx4 : x < 1000000000 := by have := hx.2; simp only [big] at this; omega
  refine ⟨x, hx4, hx3, pcs_trim_cons x r hx4, ?_, by omega⟩
  rw [hxa] at hv
  rw [← hv, Int.natCast_add, Int.natCast_mul, Int.mul_add, Int.pow_succ, Int.mul_assoc]
  show _ + (_ + big ^ j * (big * r)) + _ = _
  omega
 have hfin : ∀ R, R < B * 1000000000 → (pcs R).length ≤ (pcs B).length + 1 := fun R hR => pcs_len_le (by
  rw [Nat.pow_succ]; exact Nat.lt_of_lt_of_le hR (Nat.mul_le_mul_right _ (Nat.le_of_lt (pcs_lt B))))
 rcases h5 with rfl | ⟨rfl, rfl, rfl⟩
 all_goals
  ((try simp only [num]); refine ev ?_; try exact ⟨⟩)
  refine ⟨fun h3 => ?_, fun h3 => ?_⟩
 rotate_left
 ·obtain rfl : i = 0 := by omega
  obtain ⟨rfl, hu⟩ := hpost rfl
  have lr := pcs_len_mono (Nat.le_of_lt hr)
  have hdf := Tryz.divide1 (A % B) f (by omega) (by omega) (.inr (by rw [pcs_small hf1 (by omega)]; rfl))
  rw [pcs_small hf1 (by omega)] at hdf
  have htq := Tryz.trim q (by omega)
  rw [cutz_eq (B := 1000000000) (by decide) hqd, show vl ((1000000000 : Nat) : Int) q = ((A / B : Nat) : Int) from hu, Int.toNat_natCast, hql, fin1] at htq
  rw [fin2, Nat.mul_div_cancel _ hf1] at hdf
  rw [fin2]
  refine callF_of hdf ?_
  ((try simp only [num]); refine ev ?_; try exact ⟨⟩)
  refine callF_of htq ?_
  (refine ev ?_; try exact ⟨⟩)
  simp [resD_two, rvD, lk, D.plain, D.isPure, optAll, ofCells, D.one, ints, pcs]
 rotate_left
 ·have := pcs_len_pos (show 0 < A by rw [← hA]; exact Nat.mul_pos (by omega) hf1); omega
 ·obtain ⟨j, hj⟩ : ∃ j, (i : Nat) = j + 1 := ⟨i - 1, by omega⟩
  obtain ⟨x, hx, hxj, hxt, hxv, hxr⟩ := hround j hj
  rw [show ((i : Int) - 1).toNat = j by omega, hxj]
  have lr := pcs_len_mono (Nat.le_of_lt hr)
  have ht := Tryz.trim ((x : Int) :: pcs r) (by rw [List.length_cons]; omega)
  rw [hxt] at ht
  generalize hR : x + 1000000000 * r = R at *
  have lR := hfin R hxr
  have cR : cmpN R B < 0 ↔ R < B := by unfold cmpN; split <;> (try split) <;> omega
  and_intros <;> try omega
  refine callF_of (show Con _ _ _ [D.sl (1 + (pcs r).length) (D.int .u64 x :: ints .u64 (pcs r))] _ from by rw [Nat.add_comm]; exact ht) ?_
  ((try simp only [num]); refine ev ?_; try exact ⟨⟩)
  refine callF_of (Tryz.order R B (by omega) (by omega)) ?_
  ((try simp only [num]); refine ev ?_; try exact ⟨⟩)
  refine ⟨fun h4 => ⟨by omega, ⟨j, q, R, _, .inl rfl, by omega, hql, hqd, cR.1 h4, fun k hk => hz k (by omega), hxv, rfl, by rw [hj]; congr 2; omega, rfl⟩, by omega⟩, fun h4 => ?_⟩
  have hRB : B ≤ R := Nat.le_of_not_lt fun h => h4 (cR.2 h)
  have hlR := pcs_len_mono hRB
  have hlB := pcs_len_pos hb0
  have hc0 : 0 < 1000000000 ^ ((pcs B).length - 1) := Nat.pow_pos (by decide)
  obtain ⟨d0, hd0, hd1, hd2⟩ := dmin hc0 hT hu2 hb0 hxr
  refine ⟨by omega, by omega, by omega, fun h6 => ?_, fun h6 => ?_⟩
  ·obtain ⟨ta, tb, hta, htb, hta1, htb1, hab⟩ := top_two (R := R) (k := (pcs B).length) (by omega) (by omega) (by omega)
   rw [show (((pcs R).length : Int) - 1).toNat = (pcs B).length by omega, show (((pcs R).length : Int) - 2).toNat = (pcs B).length - 1 by omega, hta, htb,
    show (ta : Int) * 1000000000 + tb = ((R / 1000000000 ^ ((pcs B).length - 1) : Nat) : Int) by rw [← hab]; omega, hd0]
   generalize R / 1000000000 ^ ((pcs B).length - 1) = Rc at *
   have hRc : Rc < 1000000000000000000 := by omega
   have htd := td_bound (T := T) hRc
   generalize Int.tdiv (Rc : Int) T = td at *
   and_intros <;> try omega
   refine callF_of (Tryz.n_small B d0 (by omega) hd2) ?_
   ((try simp only [num]); refine ev ?_; try exact ⟨⟩)
   refine loopF_of (fun E => ∃ d : Nat, R / B ≤ d ∧ d < 1000000000 ∧
     E = [(0, num A), (3, .box true [num B]), (4, .gbox 1000004), (5, num R), (9, .int .u64 f), (10, .int .u64 T), (11, .int .i64 ((i : Int) - 1)), (12, .int .u64 d), (13, num (B * d)), (1000004, .own true 107 (pcs A).length (ints .u64 q))])
    (fun E => match lk E 12 with | .int _ i => i.toNat | _ => 0) ⟨d0, hd1, hd2, rfl⟩ ?_
   rintro _ ⟨d, hdl, hdu, rfl⟩
   have lBd := pcs_len_mul (m := B) (f := d) (Nat.le_refl _) (pcs_len_one hdu)
   ((try simp only [num]); refine ev ?_; try exact ⟨⟩)
   refine callF_of (Tryz.order (B * d) R (by omega) (by omega)) ?_
   ((try simp only [num]); refine ev ?_; try exact ⟨⟩)
   have cB : 0 < cmpN (B * d) R ↔ R < B * d := by unfold cmpN; split <;> (try split) <;> omega
   refine ⟨fun h7 => ?_, fun h7 => ?_⟩
   ·have h8 := cB.1 h7
    have h9 : R / B < d := Nat.div_lt_of_lt_mul h8
    have h9' : R / B + 1 ≤ d := h9
    obtain ⟨e, rfl⟩ : ∃ e, d = e + 1 := ⟨d - 1, (Nat.sub_add_cancel (Nat.le_trans (Nat.le_add_left 1 _) h9')).symm⟩
    have h10 : B * (e + 1) - B = B * e := by rw [Nat.mul_add, Nat.mul_one, Nat.add_sub_cancel]
    have h11 := Tryz.n_minus (B * (e + 1)) B (by omega) (by rw [Nat.mul_add]; omega)
    rw [h10] at h11
    refine callF_of h11 ?_
    ((try simp only [num]); refine ev ?_; try exact ⟨⟩)
    exact ⟨by omega, ⟨e, Nat.le_of_lt_succ h9, by omega, by congr 2; omega, rfl⟩, by omega⟩
   ·have h8 : B * d ≤ R := Nat.le_of_not_lt fun h => h7 (cB.2 h)
    have h9 : d = R / B := Nat.le_antisymm ((Nat.le_div_iff_mul_le hb0).2 (by rw [Nat.mul_comm]; exact h8)) hdl
    have h10 : R - B * d = R % B := by rw [h9]; have := Nat.div_add_mod R B; omega
    have h11 := Tryz.n_minus R (B * d) (by omega) h8
    rw [h10] at h11
    refine callF_of h11 ?_
    ((try simp only [num]); refine ev ?_; try exact ⟨⟩)
    rw [show ((i : Int) - 1).toNat = j by omega]
    have hmod := Nat.mod_lt R hb0
    have hv2 : vl big (q.set j d) * B + big ^ j * ((R % B : Nat) : Int) + vl big ((pcs A).take j) = A := by
     rw [vl_set (by omega), hz j (by omega), Int.sub_zero, Int.add_mul, ← hxv]
     have e1 : (R : Int) = d * B + ((R % B : Nat) : Int) := by
      have := Nat.div_add_mod R B
      rw [← h9] at this
      rw [← Int.natCast_mul, Nat.mul_comm]; omega
     have e2 : big ^ j * (R : Int) = big ^ j * d * B + big ^ j * ((R % B : Nat) : Int) := by rw [Int.mul_assoc, ← Int.mul_add, ← e1]
     rw [e2]; omega
    have hz2 : ∀ k, k < j → (q.set j (d : Int)).getD k 0 = 0 := fun k hk => by
     rw [List.getD_eq_getElem?_getD, List.getElem?_set_ne (by omega), ← List.getD_eq_getElem?_getD]
     exact hz k (by omega)
    have hd3 := isD_set (j := j) (d := (d : Int)) hqd ⟨by omega, by simp only [big]; omega⟩
    generalize R % B = rb at *
    and_intros <;> try omega
    exact ⟨j, q.set j d, rb, _, .inl rfl, by omega, by rw [List.length_set]; exact hql, hd3, hmod, hz2, hv2, rfl, by congr 2; omega, rfl⟩
  ·obtain ⟨hta, hta1⟩ := top_one (R := R) (k := (pcs B).length) (by omega) (by omega)
   rw [show (((pcs R).length : Int) - 1).toNat = (pcs B).length - 1 by omega, hta, hd0]
   generalize R / 1000000000 ^ ((pcs B).length - 1) = Rc at *
   have hRc : Rc < 1000000000000000000 := by omega
   have htd := td_bound (T := T) hRc
   generalize Int.tdiv (Rc : Int) T = td at *
   and_intros <;> try omega
   refine callF_of (Tryz.n_small B d0 (by omega) hd2) ?_
   ((try simp only [num]); refine ev ?_; try exact ⟨⟩)
   refine loopF_of (fun E => ∃ d : Nat, R / B ≤ d ∧ d < 1000000000 ∧
     E = [(0, num A), (3, .box true [num B]), (4, .gbox 1000004), (5, num R), (9, .int .u64 f), (10, .int .u64 T), (11, .int .i64 ((i : Int) - 1)), (12, .int .u64 d), (13, num (B * d)), (1000004, .own true 107 (pcs A).length (ints .u64 q))])
    (fun E => match lk E 12 with | .int _ i => i.toNat | _ => 0) ⟨d0, hd1, hd2, rfl⟩ ?_
   rintro _ ⟨d, hdl, hdu, rfl⟩
   have lBd := pcs_len_mul (m := B) (f := d) (Nat.le_refl _) (pcs_len_one hdu)
   ((try simp only [num]); refine ev ?_; try exact ⟨⟩)
   refine callF_of (Tryz.order (B * d) R (by omega) (by omega)) ?_
   ((try simp only [num]); refine ev ?_; try exact ⟨⟩)
   have cB : 0 < cmpN (B * d) R ↔ R < B * d := by unfold cmpN; split <;> (try split) <;> omega
   refine ⟨fun h7 => ?_, fun h7 => ?_⟩
   ·have h8 := cB.1 h7
    have h9 : R / B < d := Nat.div_lt_of_lt_mul h8
    have h9' : R / B + 1 ≤ d := h9
    obtain ⟨e, rfl⟩ : ∃ e, d = e + 1 := ⟨d - 1, (Nat.sub_add_cancel (Nat.le_trans (Nat.le_add_left 1 _) h9')).symm⟩
    have h10 : B * (e + 1) - B = B * e := by rw [Nat.mul_add, Nat.mul_one, Nat.add_sub_cancel]
    have h11 := Tryz.n_minus (B * (e + 1)) B (by omega) (by rw [Nat.mul_add]; omega)
    rw [h10] at h11
    refine callF_of h11 ?_
    ((try simp only [num]); refine ev ?_; try exact ⟨⟩)
    exact ⟨by omega, ⟨e, Nat.le_of_lt_succ h9, by omega, by congr 2; omega, rfl⟩, by omega⟩
   ·have h8 : B * d ≤ R := Nat.le_of_not_lt fun h => h7 (cB.2 h)
    have h9 : d = R / B := Nat.le_antisymm ((Nat.le_div_iff_mul_le hb0).2 (by rw [Nat.mul_comm]; exact h8)) hdl
    have h10 : R - B * d = R % B := by rw [h9]; have := Nat.div_add_mod R B; omega
    have h11 := Tryz.n_minus R (B * d) (by omega) h8
    rw [h10] at h11
    refine callF_of h11 ?_
    ((try simp only [num]); refine ev ?_; try exact ⟨⟩)
    rw [show ((i : Int) - 1).toNat = j by omega]
    have hmod := Nat.mod_lt R hb0
    have hv2 : vl big (q.set j d) * B + big ^ j * ((R % B : Nat) : Int) + vl big ((pcs A).take j) = A := by
     rw [vl_set (by omega), hz j (by omega), Int.sub_zero, Int.add_mul, ← hxv]
     have e1 : (R : Int) = d * B + ((R % B : Nat) : Int) := by
      have := Nat.div_add_mod R B
      rw [← h9] at this
      rw [← Int.natCast_mul, Nat.mul_comm]; omega
     have e2 : big ^ j * (R : Int) = big ^ j * d * B + big ^ j * ((R % B : Nat) : Int) := by rw [Int.mul_assoc, ← Int.mul_add, ← e1]
     rw [e2]; omega
    have hz2 : ∀ k, k < j → (q.set j (d : Int)).getD k 0 = 0 := fun k hk => by
     rw [List.getD_eq_getElem?_getD, List.getElem?_set_ne (by omega), ← List.getD_eq_getElem?_getD]
     exact hz k (by omega)
    have hd3 := isD_set (j := j) (d := (d : Int)) hqd ⟨by omega, by simp only [big]; omega⟩
    generalize R % B = rb at *
    and_intros <;> try omega
    exact ⟨j, q.set j d, rb, _, .inl rfl, by omega, by rw [List.length_set]; exact hql, hd3, hmod, hz2, hv2, rfl, by congr 2; omega, rfl⟩
 ·obtain ⟨j, hj⟩ : ∃ j, ((pcs A).length : Nat) = j + 1 := ⟨(pcs A).length - 1, by omega⟩
  obtain ⟨x, hx, hxj, hxt, hxv, hxr⟩ := hround j hj
  rw [show (((pcs A).length : Int) - 1).toNat = j by omega, hxj]
  have ht := Tryz.trim ((x : Int) :: pcs 0) (by rw [List.length_cons]; have := pcs_len_mono (Nat.le_of_lt hr); omega)
  rw [hxt] at ht
  generalize hR : x + 1000000000 * 0 = R at *
  have lR := hfin R hxr
  have cR : cmpN R B < 0 ↔ R < B := by unfold cmpN; split <;> (try split) <;> omega
  and_intros <;> try omega
  refine callF_of (show Con _ _ _ [D.sl 1 [D.int .u64 x]] _ from by rw [pcs_zero] at ht; exact ht) ?_
  ((try simp only [num]); refine ev ?_; try exact ⟨⟩)
  refine callF_of (Tryz.order R B (by omega) (by omega)) ?_
  ((try simp only [num]); refine ev ?_; try exact ⟨⟩)
  refine ⟨fun h4 => ⟨by omega, ⟨j, q, R, _, .inl rfl, by omega, hql, hqd, cR.1 h4, fun k hk => hz k (by omega), hxv, rfl, by rw [hj]; congr 2; omega, rfl⟩, by omega⟩, fun h4 => ?_⟩
  have hRB : B ≤ R := Nat.le_of_not_lt fun h => h4 (cR.2 h)
  have hlR := pcs_len_mono hRB
  have hlB := pcs_len_pos hb0
  have hc0 : 0 < 1000000000 ^ ((pcs B).length - 1) := Nat.pow_pos (by decide)
  obtain ⟨d0, hd0, hd1, hd2⟩ := dmin hc0 hT hu2 hb0 hxr
  refine ⟨by omega, by omega, by omega, fun h6 => ?_, fun h6 => ?_⟩
  ·obtain ⟨ta, tb, hta, htb, hta1, htb1, hab⟩ := top_two (R := R) (k := (pcs B).length) (by omega) (by omega) (by omega)
   rw [show (((pcs R).length : Int) - 1).toNat = (pcs B).length by omega, show (((pcs R).length : Int) - 2).toNat = (pcs B).length - 1 by omega, hta, htb,
    show (ta : Int) * 1000000000 + tb = ((R / 1000000000 ^ ((pcs B).length - 1) : Nat) : Int) by rw [← hab]; omega, hd0]
   generalize R / 1000000000 ^ ((pcs B).length - 1) = Rc at *
   have hRc : Rc < 1000000000000000000 := by omega
   have htd := td_bound (T := T) hRc
   generalize Int.tdiv (Rc : Int) T = td at *
   and_intros <;> try omega
   refine callF_of (Tryz.n_small B d0 (by omega) hd2) ?_
   ((try simp only [num]); refine ev ?_; try exact ⟨⟩)
   refine loopF_of (fun E => ∃ d : Nat, R / B ≤ d ∧ d < 1000000000 ∧
     E = [(0, num A), (3, .box true [num B]), (4, .gbox 1000004), (5, num R), (9, .int .u64 f), (10, .int .u64 T), (11, .int .i64 (((pcs A).length : Int) - 1)), (12, .int .u64 d), (13, num (B * d)), (1000004, .own true 107 (pcs A).length (ints .u64 q))])
    (fun E => match lk E 12 with | .int _ i => i.toNat | _ => 0) ⟨d0, hd1, hd2, rfl⟩ ?_
   rintro _ ⟨d, hdl, hdu, rfl⟩
   have lBd := pcs_len_mul (m := B) (f := d) (Nat.le_refl _) (pcs_len_one hdu)
   ((try simp only [num]); refine ev ?_; try exact ⟨⟩)
   refine callF_of (Tryz.order (B * d) R (by omega) (by omega)) ?_
   ((try simp only [num]); refine ev ?_; try exact ⟨⟩)
   have cB : 0 < cmpN (B * d) R ↔ R < B * d := by unfold cmpN; split <;> (try split) <;> omega
   refine ⟨fun h7 => ?_, fun h7 => ?_⟩
   ·have h8 := cB.1 h7
    have h9 : R / B < d := Nat.div_lt_of_lt_mul h8
    have h9' : R / B + 1 ≤ d := h9
    obtain ⟨e, rfl⟩ : ∃ e, d = e + 1 := ⟨d - 1, (Nat.sub_add_cancel (Nat.le_trans (Nat.le_add_left 1 _) h9')).symm⟩
    have h10 : B * (e + 1) - B = B * e := by rw [Nat.mul_add, Nat.mul_one, Nat.add_sub_cancel]
    have h11 := Tryz.n_minus (B * (e + 1)) B (by omega) (by rw [Nat.mul_add]; omega)
    rw [h10] at h11
    refine callF_of h11 ?_
    ((try simp only [num]); refine ev ?_; try exact ⟨⟩)
    exact ⟨by omega, ⟨e, Nat.le_of_lt_succ h9, by omega, by congr 2; omega, rfl⟩, by omega⟩
   ·have h8 : B * d ≤ R := Nat.le_of_not_lt fun h => h7 (cB.2 h)
    have h9 : d = R / B := Nat.le_antisymm ((Nat.le_div_iff_mul_le hb0).2 (by rw [Nat.mul_comm]; exact h8)) hdl
    have h10 : R - B * d = R % B := by rw [h9]; have := Nat.div_add_mod R B; omega
    have h11 := Tryz.n_minus R (B * d) (by omega) h8
    rw [h10] at h11
    refine callF_of h11 ?_
    ((try simp only [num]); refine ev ?_; try exact ⟨⟩)
    rw [show (((pcs A).length : Int) - 1).toNat = j by omega]
    have hmod := Nat.mod_lt R hb0
    have hv2 : vl big (q.set j d) * B + big ^ j * ((R % B : Nat) : Int) + vl big ((pcs A).take j) = A := by
     rw [vl_set (by omega), hz j (by omega), Int.sub_zero, Int.add_mul, ← hxv]
     have e1 : (R : Int) = d * B + ((R % B : Nat) : Int) := by
      have := Nat.div_add_mod R B
      rw [← h9] at this
      rw [← Int.natCast_mul, Nat.mul_comm]; omega
     have e2 : big ^ j * (R : Int) = big ^ j * d * B + big ^ j * ((R % B : Nat) : Int) := by rw [Int.mul_assoc, ← Int.mul_add, ← e1]
     rw [e2]; omega
    have hz2 : ∀ k, k < j → (q.set j (d : Int)).getD k 0 = 0 := fun k hk => by
     rw [List.getD_eq_getElem?_getD, List.getElem?_set_ne (by omega), ← List.getD_eq_getElem?_getD]
     exact hz k (by omega)
    have hd3 := isD_set (j := j) (d := (d : Int)) hqd ⟨by omega, by simp only [big]; omega⟩
    generalize R % B = rb at *
    and_intros <;> try omega
    exact ⟨j, q.set j d, rb, _, .inl rfl, by omega, by rw [List.length_set]; exact hql, hd3, hmod, hz2, hv2, rfl, by congr 2; omega, rfl⟩
  ·obtain ⟨hta, hta1⟩ := top_one (R := R) (k := (pcs B).length) (by omega) (by omega)
   rw [show (((pcs R).length : Int) - 1).toNat = (pcs B).length - 1 by omega, hta, hd0]
   generalize R / 1000000000 ^ ((pcs B).length - 1) = Rc at *
   have hRc : Rc < 1000000000000000000 := by omega
   have htd := td_bound (T := T) hRc
   generalize Int.tdiv (Rc : Int) T = td at *
   and_intros <;> try omega
   refine callF_of (Tryz.n_small B d0 (by omega) hd2) ?_
   ((try simp only [num]); refine ev ?_; try exact ⟨⟩)
   refine loopF_of (fun E => ∃ d : Nat, R / B ≤ d ∧ d < 1000000000 ∧
     E = [(0, num A), (3, .box true [num B]), (4, .gbox 1000004), (5, num R), (9, .int .u64 f), (10, .int .u64 T), (11, .int .i64 (((pcs A).length : Int) - 1)), (12, .int .u64 d), (13, num (B * d)), (1000004, .own true 107 (pcs A).length (ints .u64 q))])
    (fun E => match lk E 12 with | .int _ i => i.toNat | _ => 0) ⟨d0, hd1, hd2, rfl⟩ ?_
   rintro _ ⟨d, hdl, hdu, rfl⟩
   have lBd := pcs_len_mul (m := B) (f := d) (Nat.le_refl _) (pcs_len_one hdu)
   ((try simp only [num]); refine ev ?_; try exact ⟨⟩)
   refine callF_of (Tryz.order (B * d) R (by omega) (by omega)) ?_
   ((try simp only [num]); refine ev ?_; try exact ⟨⟩)
   have cB : 0 < cmpN (B * d) R ↔ R < B * d := by unfold cmpN; split <;> (try split) <;> omega
   refine ⟨fun h7 => ?_, fun h7 => ?_⟩
   ·have h8 := cB.1 h7
    have h9 : R / B < d := Nat.div_lt_of_lt_mul h8
    have h9' : R / B + 1 ≤ d := h9
    obtain ⟨e, rfl⟩ : ∃ e, d = e + 1 := ⟨d - 1, (Nat.sub_add_cancel (Nat.le_trans (Nat.le_add_left 1 _) h9')).symm⟩
    have h10 : B * (e + 1) - B = B * e := by rw [Nat.mul_add, Nat.mul_one, Nat.add_sub_cancel]
    have h11 := Tryz.n_minus (B * (e + 1)) B (by omega) (by rw [Nat.mul_add]; omega)
    rw [h10] at h11
    refine callF_of h11 ?_
    ((try simp only [num]); refine ev ?_; try exact ⟨⟩)
    exact ⟨by omega, ⟨e, Nat.le_of_lt_succ h9, by omega, by congr 2; omega, rfl⟩, by omega⟩
   ·have h8 : B * d ≤ R := Nat.le_of_not_lt fun h => h7 (cB.2 h)
    have h9 : d = R / B := Nat.le_antisymm ((Nat.le_div_iff_mul_le hb0).2 (by rw [Nat.mul_comm]; exact h8)) hdl
    have h10 : R - B * d = R % B := by rw [h9]; have := Nat.div_add_mod R B; omega
    have h11 := Tryz.n_minus R (B * d) (by omega) h8
    rw [h10] at h11
    refine callF_of h11 ?_
    ((try simp only [num]); refine ev ?_; try exact ⟨⟩)
    rw [show (((pcs A).length : Int) - 1).toNat = j by omega]
    have hmod := Nat.mod_lt R hb0
    have hv2 : vl big (q.set j d) * B + big ^ j * ((R % B : Nat) : Int) + vl big ((pcs A).take j) = A := by
     rw [vl_set (by omega), hz j (by omega), Int.sub_zero, Int.add_mul, ← hxv]
     have e1 : (R : Int) = d * B + ((R % B : Nat) : Int) := by
      have := Nat.div_add_mod R B
      rw [← h9] at this
      rw [← Int.natCast_mul, Nat.mul_comm]; omega
     have e2 : big ^ j * (R : Int) = big ^ j * d * B + big ^ j * ((R % B : Nat) : Int) := by rw [Int.mul_assoc, ← Int.mul_add, ← e1]
     rw [e2]; omega
    have hz2 : ∀ k, k < j → (q.set j (d : Int)).getD k 0 = 0 := fun k hk => by
     rw [List.getD_eq_getElem?_getD, List.getElem?_set_ne (by omega), ← List.getD_eq_getElem?_getD]
     exact hz k (by omega)
    have hd3 := isD_set (j := j) (d := (d : Int)) hqd ⟨by omega, by simp only [big]; omega⟩
    generalize R % B = rb at *
    and_intros <;> try omega
    exact ⟨j, q.set j d, rb, _, .inl rfl, by omega, by rw [List.length_set]; exact hql, hd3, hmod, hz2, hv2, rfl, by congr 2; omega, rfl⟩
end Go.Proofs
