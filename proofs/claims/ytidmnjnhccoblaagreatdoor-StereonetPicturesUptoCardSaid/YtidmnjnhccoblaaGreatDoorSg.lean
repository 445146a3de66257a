/-
  ARITHMETIC: klipperef02: Mul, Of. Own work.
-/
import Derived.Test.YtidmnjnhccoblaaGreatDoorPj
import Derived.Test.YtidmnjnhccoblaaGreatDoorSf
import Derived.Test.YtidmnjnhccoblaaGreatDoorEh
import Derived.Test.YtidmnjnhccoblaaGreatDoorEc
import Derived.Shelf.Abstract
import Derived.WalkKit
import Derived.OwnWalkIn
import Derived.TacticsInMore
import Derived.LoopNIn
import Derived.LoopIn
import Derived.BigCall
import Derived.BigGuard
set_option linter.unusedVariables false
set_option linter.unusedSimpArgs false
namespace Go.Proofs
open Go Go.Pi Go.RowKit Go.Ar

theorem Tryz.qmul (a b : Rat) (ha : rd a ≤ 5000) (hb : rd b ≤ 5000) : Con Tryz.prog Tryz.L 63 [.str (rt a), .str (rt b)] (.str (rt (a * b))) := by
  refine rule63 Tryz.hL rfl rfl rfl ?_
  (simp only [pc63, rs63, oU, oC]; refine ev ?_; try with_reducible exact trivial)
  have pa := Tryz.qparts a (by omega)
  have pb := Tryz.qparts b (by omega)
  have a1 := rd_num a; have a2 : dl (a.den : Int) ≤ rd a := rd_den a
  have b1 := rd_num b; have b2 : dl (b.den : Int) ≤ rd b := rd_den b
  have d1 := dl_mul a.num b.num
  have d3 := dl_mul a.den b.den
  have m1 := Tryz.xmul a.num b.num (by omega) (by omega)
  have m3 := Tryz.xmul a.den b.den (by omega) (by omega)
  have hne : a.den * b.den ≠ 0 := Nat.mul_ne_zero a.den_nz b.den_nz
  have lw := Tryz.fraction (a.num * b.num) (a.den * b.den) hne (by omega) (by rw [← dl_nat, Int.natCast_mul]; omega)
  rw [mul_mk] at lw
  rw [← Int.natCast_mul] at m3
  refine callF_of (Tryz.qbrief a (by omega)) ?_
  split
  rename_i h1
  (refine ev ?_; try with_reducible exact trivial)
  refine callF_of (Tryz.qbrief b (by omega)) ?_
  split
  · rename_i h2
    have h1 := len9 (q := a) (by omega)
    have h2 := len9 (q := b) (by omega)
    have s1 := mul_small (q9 h1).1 (q9 h2).1
    have s3 := mul_small (q9 h1).2 (q9 h2).2
    have sm := Tryz.qlowest (a.num * b.num) (a.den * b.den) (by omega) (by omega) (by rw [← Int.natCast_mul] at s3; omega)
    rw [mul_mk] at sm
    rw [← Int.natCast_mul] at s3
    (refine ev ?_; try with_reducible exact trivial)
    rw [← Int.natCast_mul]
    generalize a.num * b.num = x at *
    generalize a.den * b.den = z at *
    refine ⟨by omega, by omega, ?_⟩
    refine callF_of sm ?_
    (refine ev ?_; try with_reducible exact trivial)
  all_goals
    (refine ev ?_; try with_reducible exact trivial)
    refine callF_of pa ?_
    (refine ev ?_; try with_reducible exact trivial)
    refine callF_of pb ?_
    (refine ev ?_; try with_reducible exact trivial)
    refine callF_of m1 ?_
    (refine ev ?_; try with_reducible exact trivial)
    refine callF_of m3 ?_
    (refine ev ?_; try with_reducible exact trivial)
    refine callF_of lw ?_
    (refine ev ?_; try with_reducible exact trivial)
theorem Tryz.qof (n : Int) (d : Nat) (hd : 0 < d) (h : inR .i64 n) (h2 : inR .i64 (d : Int)) : Con Tryz.prog Tryz.L 27 [.int .i64 n, .int .i64 d] (.str (rt (mkRat n d))) := by
  have l1 := dl_i64 h
  have l2 := dl_i64 h2
  refine rule27 Tryz.hL rfl rfl rfl ?_
  (simp only [pc27, rs27, oU, oC]; refine ev ?_; try with_reducible exact trivial)
  refine callF_of (Tryz.xof n h) ?_
  (refine ev ?_; try with_reducible exact trivial)
  refine callF_of (Tryz.xof d h2) ?_
  (refine ev ?_; try with_reducible exact trivial)
  refine callF_of (Tryz.fraction n d (by omega) (by omega) (by have : dl (d : Int) = (dd d).length := rfl; omega)) ?_
  (refine ev ?_; try with_reducible exact trivial)
theorem Tryz.qof1 (n : Int) (h : inR .i64 n) : Con Tryz.prog Tryz.L 27 [.int .i64 n, .int .i64 1] (.str (rt (n : Rat))) := by
  have := Tryz.qof n 1 (by decide) h (by rw [inR_i64]; omega)
  rw [mk_one] at this
  exact this
end Go.Proofs

/-
  STEREONET: vectors as data. Own work.
-/
namespace Go.Proofs
open Go Go.Pi Go.RowKit Go.Ar Go.Ne

theorem rd_rtlen (q : Rat) : rd q ≤ (rt q).length := by
  unfold rd
  have h1 := tz_len q.num
  refine Nat.max_le.2 ?_
  by_cases hd : q.den = 1
  · rw [rt_int hd, hd]
    have := dd_len_pos q.num.natAbs
    rw [show (dd 1).length = 1 by rw [dd_one]; rfl]
    unfold dl; omega
  · rw [rt_frac hd, List.length_append, List.length_cons]
    unfold dl; omega
theorem rd_int {z : Int} {k : Nat} (hk : 0 < k) (h : z.natAbs < 10 ^ k) : rd (z : Rat) ≤ k := by
  rw [rd_z]; exact dd_len_le hk h
abbrev S3 := List UInt8 × List UInt8 × List UInt8
def svD (v : S3) : List D := [.str v.1, .str v.2.1, .str v.2.2]
theorem svD_len (v : S3) : (svD v).length = 3 := rfl
abbrev svs (l : List S3) : List D := rows svD l
abbrev lS (l : List S3) : D := .sl l.length (svs l)
theorem svs_len (l : List S3) : (svs l).length = l.length * 3 := rows_length svD_len l
theorem ldC_svs {l : List S3} {k t : Nat} {N : EP} {E : Env} : ldC true 3 (List.take 3 (List.drop (k * 3) (svs l))) t N E = (∃ x, l[k]? = some x ∧ N (st1 E t (.agg (svD x)))) := by
  unfold ldC
  cases h : l[k]? with
  | none =>
    have hk : l.length ≤ k := by simpa using h
    have e : List.take 3 (List.drop (k * 3) (svs l)) = [] := by rw [List.drop_eq_nil_of_le (by rw [rows_length svD_len]; omega)]; rfl
    rw [e]; simp [ofCells]
  | some x =>
    obtain ⟨r, e⟩ := rows_at svD_len h
    have e2 : List.take 3 (List.drop (k * 3) (svs l)) = svD x := by rw [e]; rfl
    rw [e2]
    simp [ofCells, svD]
def tx3 (v : V3) : S3 := (rt v.1, rt v.2.1, rt v.2.2)
def ok3 (v : S3) : Prop := okR v.1 ∧ okR v.2.1 ∧ okR v.2.2
def Sz3 (k : Nat) (v : V3) : Prop := rd v.1 ≤ k ∧ rd v.2.1 ≤ k ∧ rd v.2.2 ≤ k
theorem Sz3.more {k n : Nat} {v : V3} (h : Sz3 k v) (hn : k ≤ n) : Sz3 n v := ⟨Nat.le_trans h.1 hn, Nat.le_trans h.2.1 hn, Nat.le_trans h.2.2 hn⟩
/-- the number of a right text -/
noncomputable def val (s : List UInt8) : Rat := @dite _ (∃ q, s = rt q) (Classical.propDecidable _) (fun h => h.choose) (fun _ => 0)
theorem val_rt {s : List UInt8} (h : okR s) : s = rt (val s) := by
  obtain ⟨q, h1, _⟩ := h
  have hx : ∃ q, s = rt q := ⟨q, h1⟩
  unfold val
  rw [dif_pos hx]
  exact hx.choose_spec
noncomputable def val3 (v : S3) : V3 := (val v.1, val v.2.1, val v.2.2)
theorem val3_tx {v : S3} (h : ok3 v) : v = tx3 (val3 v) := Prod.ext (val_rt h.1) (Prod.ext (val_rt h.2.1) (val_rt h.2.2))
theorem val3_sz {v : S3} (h : ok3 v) {k : Nat} (hl : v.1.length ≤ k ∧ v.2.1.length ≤ k ∧ v.2.2.length ≤ k) : Sz3 k (val3 v) := by
  have r1 := rd_rtlen (val v.1); rw [← val_rt h.1] at r1
  have r2 := rd_rtlen (val v.2.1); rw [← val_rt h.2.1] at r2
  have r3 := rd_rtlen (val v.2.2); rw [← val_rt h.2.2] at r3
  exact ⟨by show rd (val v.1) ≤ k; omega, by show rd (val v.2.1) ≤ k; omega, by show rd (val v.2.2) ≤ k; omega⟩
/-- a zero vector, as texts -/
def zS (v : S3) : Bool := decide (v = ([48], [48], [48]))
end Go.Proofs

/-
  STEREONET: the program's tests and pixels. Own work.
-/
namespace Go.Proofs
open Go Go.Pi Go.RowKit Go.Ar Go.Ne

theorem dB_eq {p q : Prop} [Decidable q] (h : p ↔ q) : dB p = decide q := by rw [dB_dec]; exact congrArg dB (propext h)
theorem dB_congr {p q : Prop} (h : p ↔ q) : dB p = dB q := congrArg dB (propext h)
def netD (k R : Int) : D := .agg [.int .i64 k, .int .i64 R]
theorem sz_dot {k : Nat} {a b : V3} (ha : Sz3 k a) (hb : Sz3 k b) : rd (dot3 a b) ≤ 6 * k + 2 := by
  obtain ⟨a1, a2, a3⟩ := ha
  obtain ⟨b1, b2, b3⟩ := hb
  have m1 := rd_mul a.1 b.1
  have m2 := rd_mul a.2.1 b.2.1
  have m3 := rd_mul a.2.2 b.2.2
  have s1 := rd_add (a.1 * b.1) (a.2.1 * b.2.1)
  have s2 := rd_add (a.1 * b.1 + a.2.1 * b.2.1) (a.2.2 * b.2.2)
  unfold dot3; omega
theorem rd_m1 : rd (-1) ≤ 1 := by rw [show (-1 : Rat) = ((-1 : Int) : Rat) from rfl]; exact rd_int (by decide) (by decide)
theorem sc_neg1 (v : V3) : sc3 v (-1) = (-v.1, -v.2.1, -v.2.2) := by unfold sc3; ext <;> simp only [] <;> grind
theorem sz_low {k : Nat} {v : V3} (h : Sz3 k v) : Sz3 k (low3 v) := by
  unfold low3; split
  · rw [sc_neg1]; exact ⟨by show rd (-v.1) ≤ k; rw [rd_neg]; exact h.1, by show rd (-v.2.1) ≤ k; rw [rd_neg]; exact h.2.1, by show rd (-v.2.2) ≤ k; rw [rd_neg]; exact h.2.2⟩
  · exact h
theorem rt_m1 : rt (-1) = [45, 49] := by kernel_rfl
theorem sgn_nonneg (q : Rat) : 0 ≤ q.num.sign ↔ 0 ≤ q := by
  rw [← Rat.num_nonneg]
  rcases Int.lt_trichotomy q.num 0 with h | h | h
  · rw [Int.sign_eq_neg_one_of_neg h]; omega
  · rw [h]; simp
  · rw [Int.sign_eq_one_of_pos h]; omega
theorem sgn_pos (q : Rat) : 0 < q.num.sign ↔ 0 < q := by
  rw [← (sign_num q).2.2]
  rcases Int.lt_trichotomy q.num 0 with h | h | h
  · rw [Int.sign_eq_neg_one_of_neg h]; omega
  · rw [h]; simp
  · rw [Int.sign_eq_one_of_pos h]; omega
theorem cmpQ_ge (a b : Rat) : 0 ≤ cmpQ a b ↔ b ≤ a := by
  unfold cmpQ
  split
  · rename_i h; exact ⟨fun h' => absurd h' (by decide), fun h' => absurd h (Rat.not_lt.2 h')⟩
  · rename_i h; have := Rat.not_lt.1 h
    split <;> exact ⟨fun _ => this, fun _ => by decide⟩
theorem cmpQ_le (a b : Rat) : cmpQ a b ≤ 0 ↔ a ≤ b := by
  unfold cmpQ
  by_cases h : a < b
  · rw [if_pos h]; exact ⟨fun _ => Rat.le_of_lt h, fun _ => by decide⟩
  · by_cases h2 : b < a
    · constructor
      · intro h'
        simp [h, h2] at h'
      · intro h'; exact absurd h2 (Rat.not_lt.2 h')
    · have e : a = b := by grind
      subst e
      simp
theorem Tryz.sdot (a b : V3) (ha : Sz3 300 a) (hb : Sz3 300 b) : Con Tryz.prog Tryz.L 55 [.agg (svD (tx3 a)), .agg (svD (tx3 b))] (.str (rt (dot3 a b))) := by
  obtain ⟨a1, a2, a3⟩ := ha
  obtain ⟨b1, b2, b3⟩ := hb
  have m1 := rd_mul a.1 b.1
  have m2 := rd_mul a.2.1 b.2.1
  have m3 := rd_mul a.2.2 b.2.2
  have s1 := rd_add (a.1 * b.1) (a.2.1 * b.2.1)
  refine rule55 Tryz.hL rfl rfl rfl ?_
  simp only [tx3, svD, pc55, rs55, oU, oC, evX, evY, evZ, forall_const, implies_true, initE, stepF, D.clean, mvF, moF, tkF, shF, ariF, ciF, catF, scF, ebF, eqF, eqOk, eqPr, enF, notF, ngF, cvF, csF, csbF, lenF, lenSF, ixF, iaF, PX.slot, iaAF, faF, ldF, D.mem, stF, bxF, mkSF, boundF, fldF, ixAF, mmF2, D.plain, D.isPure, optAll, D.dull, callVF, splice, D.cells, D.one, sets, resT, D.flat, D.flat0, D.simple, Nat.reduceBNe, Nat.reduceLT, reduceIte, Nat.reduceEqDiff, Nat.reduceAdd, Nat.reduceMul, Nat.reduceSub, Nat.reduceLeDiff, Int.reduceToNat, Int.reduceLT, Int.reduceLE, Int.reduceEq, Int.reduceNeg, Int.reduceSub, Int.reduceAdd, Int.reduceMul, stG_own]
  refine callF_of (Tryz.rmul a.1 b.1 (by omega) (by omega)) ?_
  (refine ev ?_; try with_reducible exact trivial)
  refine callF_of (Tryz.rmul a.2.1 b.2.1 (by omega) (by omega)) ?_
  (refine ev ?_; try with_reducible exact trivial)
  refine callF_of (Tryz.radd _ _ (by omega) (by omega)) ?_
  (refine ev ?_; try with_reducible exact trivial)
  refine callF_of (Tryz.rmul a.2.2 b.2.2 (by omega) (by omega)) ?_
  (refine ev ?_; try with_reducible exact trivial)
  refine callF_of (Tryz.radd _ _ (by omega) (by omega)) ?_
  (refine ev ?_; try with_reducible exact trivial)
  rfl
theorem Tryz.sscale (a : V3) (q : Rat) (ha : Sz3 300 a) (hq : rd q ≤ 300) : Con Tryz.prog Tryz.L 79 [.agg (svD (tx3 a)), .str (rt q)] (.agg (svD (tx3 (sc3 a q)))) := by
  obtain ⟨a1, a2, a3⟩ := ha
  refine rule79 Tryz.hL rfl rfl rfl ?_
  simp only [sc3, tx3, svD, pc79, rs79, oU, oC, evX, evY, evZ, forall_const, implies_true, initE, stepF, D.clean, mvF, moF, tkF, shF, ariF, ciF, catF, scF, ebF, eqF, eqOk, eqPr, enF, notF, ngF, cvF, csF, csbF, lenF, lenSF, ixF, iaF, PX.slot, iaAF, faF, ldF, D.mem, stF, bxF, mkSF, boundF, fldF, ixAF, mmF2, D.plain, D.isPure, optAll, D.dull, callVF, splice, D.cells, D.one, sets, resT, D.flat, D.flat0, D.simple, Nat.reduceBNe, Nat.reduceLT, reduceIte, Nat.reduceEqDiff, Nat.reduceAdd, Nat.reduceMul, Nat.reduceSub, Nat.reduceLeDiff, Int.reduceToNat, Int.reduceLT, Int.reduceLE, Int.reduceEq, Int.reduceNeg, Int.reduceSub, Int.reduceAdd, Int.reduceMul, stG_own]
  refine callF_of (Tryz.rmul a.1 q (by omega) (by omega)) ?_
  (refine ev ?_; try with_reducible exact trivial)
  refine callF_of (Tryz.rmul a.2.1 q (by omega) (by omega)) ?_
  (refine ev ?_; try with_reducible exact trivial)
  refine callF_of (Tryz.rmul a.2.2 q (by omega) (by omega)) ?_
  (refine ev ?_; try with_reducible exact trivial)
  rfl
theorem Tryz.slower (v : V3) (h : Sz3 300 v) : Con Tryz.prog Tryz.L 47 [.agg (svD (tx3 v))] (.agg (svD (tx3 (low3 v)))) := by
  have hsc := Tryz.sscale v (-1) h (by have := rd_m1; omega)
  rw [rt_m1] at hsc
  refine rule47 Tryz.hL rfl rfl rfl ?_
  have hv : tx3 v = (rt v.1, rt v.2.1, rt v.2.2) := rfl
  simp only [svD, pc47, rs47, oU, oC, evX, evY, evZ, forall_const, implies_true, initE, stepF, D.clean, mvF, moF, tkF, shF, ariF, ciF, catF, scF, ebF, eqF, eqOk, eqPr, enF, notF, ngF, cvF, csF, csbF, lenF, lenSF, ixF, iaF, PX.slot, iaAF, faF, ldF, D.mem, stF, bxF, mkSF, boundF, fldF, ixAF, mmF2, D.plain, D.isPure, optAll, D.dull, callVF, splice, D.cells, D.one, sets, resT, D.flat, D.flat0, D.simple, Nat.reduceBNe, Nat.reduceLT, reduceIte, Nat.reduceEqDiff, Nat.reduceAdd, Nat.reduceMul, Nat.reduceSub, Nat.reduceLeDiff, Int.reduceToNat, Int.reduceLT, Int.reduceLE, Int.reduceEq, Int.reduceNeg, Int.reduceSub, Int.reduceAdd, Int.reduceMul, stG_own, hv]
  refine callF_of (Tryz.rsign v.2.2 (by have := h.2.2; omega)) ?_
  (refine ev ?_; try with_reducible exact trivial)
  have hp := sgn_pos v.2.2
  unfold low3
  refine ⟨fun h1 => ?_, fun h1 => ?_⟩
  · rw [if_pos (hp.1 (by omega))]
    refine callF_of hsc ?_
    simp only [svD, evX, evY, evZ, forall_const, implies_true, initE, stepF, D.clean, mvF, moF, tkF, shF, ariF, ciF, catF, scF, ebF, eqF, eqOk, eqPr, enF, notF, ngF, cvF, csF, csbF, lenF, lenSF, ixF, iaF, PX.slot, iaAF, faF, ldF, D.mem, stF, bxF, mkSF, boundF, fldF, ixAF, mmF2, D.plain, D.isPure, optAll, D.dull, callVF, splice, D.cells, D.one, sets, resT, D.flat, D.flat0, D.simple, Nat.reduceBNe, Nat.reduceLT, reduceIte, Nat.reduceEqDiff, Nat.reduceAdd, Nat.reduceMul, Nat.reduceSub, Nat.reduceLeDiff, Int.reduceToNat, Int.reduceLT, Int.reduceLE, Int.reduceEq, Int.reduceNeg, Int.reduceSub, Int.reduceAdd, Int.reduceMul, stG_own]
    rfl
  · rw [if_neg (fun h' => h1 (by have := hp.2 h'; omega))]
    rfl
theorem Tryz.satLeast (x h s : Rat) (hx : rd x ≤ 2000) (hh : rd h ≤ 1000) (hs : rd s ≤ 2500) : Con Tryz.prog Tryz.L 141 [.str (rt x), .str (rt h), .str (rt s)] (.bool (decide (rle h s x))) := by
  have m1 := rd_mul x x
  have m2 := rd_mul h h
  have m3 := rd_mul (h * h) s
  have c1 := cmpQ_ge (x * x) (h * h * s)
  have c2 := cmpQ_le (x * x) (h * h * s)
  have p1 := sgn_nonneg x
  have p2 := sgn_nonneg h
  refine rule141 Tryz.hL rfl rfl rfl ?_
  (simp only [pc141, rs141, oU, oC]; refine ev ?_; try with_reducible exact trivial)
  refine callF_of (Tryz.rmul x x (by omega) (by omega)) ?_
  (refine ev ?_; try with_reducible exact trivial)
  refine callF_of (Tryz.rmul h h (by omega) (by omega)) ?_
  (refine ev ?_; try with_reducible exact trivial)
  refine callF_of (Tryz.rmul (h * h) s (by omega) (by omega)) ?_
  (refine ev ?_; try with_reducible exact trivial)
  refine callF_of (Tryz.rcompare (x * x) (h * h * s) (by omega) (by omega)) ?_
  (refine ev ?_; try with_reducible exact trivial)
  refine callF_of (Tryz.rsign h (by omega)) ?_
  (refine ev ?_; try with_reducible exact trivial)
  refine ⟨fun h1 => ?_, fun h1 => ?_⟩
  · refine callF_of (Tryz.rsign x (by omega)) ?_
    (refine ev ?_; try with_reducible exact trivial)
    refine ⟨fun h2 => ?_, fun h2 => ?_⟩
    · refine dB_eq ?_
      rw [rle_pos (p2.1 h1), c1]; exact ⟨fun h => ⟨p1.1 h2, h⟩, fun h => h.2⟩
    · rw [decide_eq_false]
      rw [rle_pos (p2.1 h1)]
      exact fun h => h2 (p1.2 h.1)
  · refine callF_of (Tryz.rsign x (by omega)) ?_
    (refine ev ?_; try with_reducible exact trivial)
    have hn : h < 0 := Rat.not_le.1 (fun hh => h1 (p2.2 hh))
    refine ⟨fun h2 => ?_, fun h2 => ?_⟩
    · refine dB_eq ?_
      rw [rle_neg hn, c2]; exact ⟨.inr, fun h => h.resolve_left (fun hh => h2 (p1.2 hh))⟩
    · rw [decide_eq_true]
      rw [rle_neg hn]
      exact .inl (p1.1 h2)
end Go.Proofs

/-
  STEREONET: vectors of the program and of the reference: cross products, sums, multiples. Own work.
-/
namespace Go.Proofs
open Go Go.Pi Go.RowKit Go.Ar Go.Ne

theorem Tryz.klist (v : S3) (h : v.1.length ≤ 1000000 ∧ v.2.1.length ≤ 1000000 ∧ v.2.2.length ≤ 1000000) : Con Tryz.prog Tryz.L 76 [.agg (svD v)] (.own true 24 3 (svD v)) := by
  refine rule76 Tryz.hL rfl rfl rfl ?_
  simp only [svD, pc76, rs76, oU, oC, evX, evY, evZ, forall_const, implies_true, initE, stepF, D.clean, mvF, moF, tkF, shF, ariF, ciF, catF, scF, ebF, eqF, eqOk, eqPr, enF, notF, ngF, cvF, csF, csbF, lenF, lenSF, ixF, iaF, PX.slot, iaAF, faF, ldF, D.mem, stF, bxF, mkSF, boundF, fldF, ixAF, mmF2, D.plain, D.isPure, optAll, D.dull, callVF, splice, D.cells, D.one, sets, resT, D.flat, D.flat0, D.simple, Nat.reduceBNe, Nat.reduceLT, reduceIte, Nat.reduceEqDiff, Nat.reduceAdd, Nat.reduceMul, Nat.reduceSub, Nat.reduceLeDiff, Int.reduceToNat, Int.reduceLT, Int.reduceLE, Int.reduceEq, Int.reduceNeg, Int.reduceSub, Int.reduceAdd, Int.reduceMul, stG_own]
theorem Tryz.kdot6 (a b : V3) (ha : Sz3 300 a) (hb : Sz3 300 b) : Con Tryz.prog Tryz.L 100 [.sl 3 (svD (tx3 a)), .sl 3 (svD (tx3 b))] (.str (rt (dot3 a b))) := by
  obtain ⟨a1, a2, a3⟩ := ha
  obtain ⟨b1, b2, b3⟩ := hb
  have m1 := rd_mul a.1 b.1
  have m2 := rd_mul a.2.1 b.2.1
  have m3 := rd_mul a.2.2 b.2.2
  have s1 := rd_add (a.1 * b.1) (a.2.1 * b.2.1)
  have s2 := rd_add (a.1 * b.1 + a.2.1 * b.2.1) (a.2.2 * b.2.2)
  have z0 : rd (0 : Rat) ≤ 1 := by rw [show (0 : Rat) = ((0 : Int) : Rat) from rfl]; exact rd_int (by decide) (by decide)
  have q1 := Tryz.qadd 0 (a.1 * b.1) (by omega) (by omega)
  have q2 := Tryz.qadd (a.1 * b.1) (a.2.1 * b.2.1) (by omega) (by omega)
  have q3 := Tryz.qadd (a.1 * b.1 + a.2.1 * b.2.1) (a.2.2 * b.2.2) (by omega) (by omega)
  rw [Rat.zero_add, zero_txt] at q1
  have p1 := Tryz.qmul a.1 b.1 (by omega) (by omega)
  have p2 := Tryz.qmul a.2.1 b.2.1 (by omega) (by omega)
  have p3 := Tryz.qmul a.2.2 b.2.2 (by omega) (by omega)
  refine rule100 Tryz.hL rfl rfl rfl ?_
  simp only [tx3, svD, pc100, rs100, oU, oC, evX, evY, evZ, forall_const, implies_true, initE, stepF, D.clean, mvF, moF, tkF, shF, ariF, ciF, catF, scF, ebF, eqF, eqOk, eqPr, enF, notF, ngF, cvF, csF, csbF, lenF, lenSF, ixF, iaF, PX.slot, iaAF, faF, ldF, D.mem, stF, bxF, mkSF, boundF, fldF, ixAF, mmF2, D.plain, D.isPure, optAll, D.dull, callVF, splice, D.cells, D.one, sets, resT, D.flat, D.flat0, D.simple, Nat.reduceBNe, Nat.reduceLT, reduceIte, Nat.reduceEqDiff, Nat.reduceAdd, Nat.reduceMul, Nat.reduceSub, Nat.reduceLeDiff, Int.reduceToNat, Int.reduceLT, Int.reduceLE, Int.reduceEq, Int.reduceNeg, Int.reduceSub, Int.reduceAdd, Int.reduceMul, stG_own]
  refine loopF_of (fun E => ∃ k : Nat, k ≤ 3 ∧ E = [(0, .sl 3 [.str (rt a.1), .str (rt a.2.1), .str (rt a.2.2)]), (1, .sl 3 [.str (rt b.1), .str (rt b.2.1), .str (rt b.2.2)]), (5, .str (match k with | 0 => [48] | 1 => rt (a.1 * b.1) | 2 => rt (a.1 * b.1 + a.2.1 * b.2.1) | _ => rt (dot3 a b))), (6, .int .i64 k)])
    (fun E => match lk E 6 with | .int _ i => 3 - i.toNat | _ => 0) ⟨0, by omega, rfl⟩ ?_
  rintro _ ⟨k, hk, rfl⟩
  obtain rfl | rfl | rfl | rfl : k = 0 ∨ k = 1 ∨ k = 2 ∨ k = 3 := by omega
  · (refine ev ?_; try with_reducible exact trivial)
    refine ⟨fun _ => ?_, fun h => absurd (by decide) h⟩
    refine ⟨⟨by decide, by decide⟩, ⟨by decide, by decide⟩, ?_⟩
    refine callF_of p1 ?_
    (refine ev ?_; try with_reducible exact trivial)
    refine callF_of q1 ?_
    (refine ev ?_; try with_reducible exact trivial)
    exact ⟨⟨by decide, by decide⟩, ⟨1, by omega, rfl, rfl⟩, by decide⟩
  · (refine ev ?_; try with_reducible exact trivial)
    refine ⟨fun _ => ?_, fun h => absurd (by decide) h⟩
    refine ⟨⟨by decide, by decide⟩, ⟨by decide, by decide⟩, ?_⟩
    refine callF_of p2 ?_
    (refine ev ?_; try with_reducible exact trivial)
    refine callF_of q2 ?_
    (refine ev ?_; try with_reducible exact trivial)
    exact ⟨⟨by decide, by decide⟩, ⟨2, by omega, rfl, rfl⟩, by decide⟩
  · (refine ev ?_; try with_reducible exact trivial)
    refine ⟨fun _ => ?_, fun h => absurd (by decide) h⟩
    refine ⟨⟨by decide, by decide⟩, ⟨by decide, by decide⟩, ?_⟩
    refine callF_of p3 ?_
    (refine ev ?_; try with_reducible exact trivial)
    refine callF_of q3 ?_
    (refine ev ?_; try with_reducible exact trivial)
    exact ⟨⟨by decide, by decide⟩, ⟨3, by omega, rfl, rfl⟩, by decide⟩
  · (refine ev ?_; try with_reducible exact trivial)
    exact fun h => absurd h (by omega)
end Go.Proofs

/-
  STEREONET: which numbers, nets and directions are right: the program's and the law's tests. Own work.
-/
namespace Go.Ar
/-- the first place with a property, from k on, or -1 -/
def ixA {α : Type} (p : α → Bool) : List α → Nat → Int
  | [], _ => -1
  | a :: l, k => if p a then (k : Int) else ixA p l (k + 1)
theorem ixA_any {α : Type} {p : α → Bool} : ∀ {l : List α} {k : Nat}, (0 ≤ ixA p l k) ↔ l.any p = true
  | [], k => by simp [ixA]
  | a :: l, k => by
    have ih := ixA_any (p := p) (l := l) (k := k + 1)
    simp only [ixA, List.any_cons, Bool.or_eq_true]
    split
    · rename_i h; exact ⟨fun _ => .inl h, fun _ => by omega⟩
    · rename_i h; rw [ih]; exact ⟨.inr, fun h2 => h2.resolve_left h⟩
end Go.Ar
namespace Go.Proofs
open Go Go.Pi Go.RowKit Go.Ar Go.Ne

theorem dropc {α : Type} {l : List α} {k : Nat} {x : α} (h : l[k]? = some x) : l.drop k = x :: l.drop (k + 1) := by
  obtain ⟨h1, rfl⟩ := List.getElem?_eq_some_iff.1 h
  exact List.drop_eq_getElem_cons h1
def szS (k : Nat) (v : S3) : Prop := v.1.length ≤ k ∧ v.2.1.length ≤ k ∧ v.2.2.length ≤ k
noncomputable def numE (l : List S3) : Int := chk (∀ v ∈ l, ok3 v)
def zerE (l : List S3) : Int := if l.any zS = true then 17 else 0
def netE (k R : Int) : Int := if k ≠ 1 ∧ k ≠ 2 then 12 else if R < 1 ∨ 1000 < R then 3 else 0
theorem Tryz.vnumbers (v : S3) (h : szS 1000000 v) : Con Tryz.prog Tryz.L 113 [.sl 3 (svD v)] (.int .i64 (chk (ok3 v))) := by
  obtain ⟨hx, hy, hz⟩ := h
  refine rule113 Tryz.hL rfl rfl rfl ?_
  simp only [svD, pc113, rs113, oU, oC, evX, evY, evZ, forall_const, implies_true, initE, stepF, D.clean, mvF, moF, tkF, shF, ariF, ciF, catF, scF, ebF, eqF, eqOk, eqPr, enF, notF, ngF, cvF, csF, csbF, lenF, lenSF, ixF, iaF, PX.slot, iaAF, faF, ldF, D.mem, stF, bxF, mkSF, boundF, fldF, ixAF, mmF2, D.plain, D.isPure, optAll, D.dull, callVF, splice, D.cells, D.one, sets, resT, D.flat, D.flat0, D.simple, Nat.reduceBNe, Nat.reduceLT, reduceIte, Nat.reduceEqDiff, Nat.reduceAdd, Nat.reduceMul, Nat.reduceSub, Nat.reduceLeDiff, Int.reduceToNat, Int.reduceLT, Int.reduceLE, Int.reduceEq, Int.reduceNeg, Int.reduceSub, Int.reduceAdd, Int.reduceMul, stG_own]
  refine loopF_of (fun E => ∃ k : Nat, k ≤ 3 ∧ (0 < k → okR v.1) ∧ (1 < k → okR v.2.1) ∧ (2 < k → okR v.2.2) ∧ E = [(6, .sl 3 [.str v.1, .str v.2.1, .str v.2.2]), (7, .int .i64 3), (8, .int .i64 k)])
    (fun E => match lk E 8 with | .int _ i => 3 - i.toNat | _ => 0) ⟨0, by omega, by omega, by omega, by omega, rfl⟩ ?_
  rintro _ ⟨k, hk, h0, h1, h2, rfl⟩
  obtain rfl | rfl | rfl | rfl : k = 0 ∨ k = 1 ∨ k = 2 ∨ k = 3 := by omega
  · (refine ev ?_; try with_reducible exact trivial)
    refine ⟨fun _ => ⟨⟨by decide, by decide⟩, ?_⟩, fun h => absurd (by decide) h⟩
    refine callF_of (Tryz.rcheck v.1 hx) ?_
    (refine ev ?_; try with_reducible exact trivial)
    refine ⟨fun h => ?_, fun h => ⟨⟨by decide, by decide⟩, ⟨1, by omega, fun _ => chk_0.1 (Classical.not_not.1 h), by omega, by omega, rfl⟩, by decide⟩⟩
    rw [chk_f (fun hh : ok3 v => h (chk_0.2 hh.1))]
    exact chk_f (fun hh => h (chk_0.2 hh))
  · (refine ev ?_; try with_reducible exact trivial)
    refine ⟨fun _ => ⟨⟨by decide, by decide⟩, ?_⟩, fun h => absurd (by decide) h⟩
    refine callF_of (Tryz.rcheck v.2.1 hy) ?_
    (refine ev ?_; try with_reducible exact trivial)
    refine ⟨fun h => ?_, fun h => ⟨⟨by decide, by decide⟩, ⟨2, by omega, fun _ => h0 (by omega), fun _ => chk_0.1 (Classical.not_not.1 h), by omega, rfl⟩, by decide⟩⟩
    rw [chk_f (fun hh : ok3 v => h (chk_0.2 hh.2.1))]
    exact chk_f (fun hh => h (chk_0.2 hh))
  · (refine ev ?_; try with_reducible exact trivial)
    refine ⟨fun _ => ⟨⟨by decide, by decide⟩, ?_⟩, fun h => absurd (by decide) h⟩
    refine callF_of (Tryz.rcheck v.2.2 hz) ?_
    (refine ev ?_; try with_reducible exact trivial)
    refine ⟨fun h => ?_, fun h => ⟨⟨by decide, by decide⟩, ⟨3, by omega, fun _ => h0 (by omega), fun _ => h1 (by omega), fun _ => chk_0.1 (Classical.not_not.1 h), rfl⟩, by decide⟩⟩
    rw [chk_f (fun hh : ok3 v => h (chk_0.2 hh.2.2))]
    exact chk_f (fun hh => h (chk_0.2 hh))
  · (refine ev ?_; try with_reducible exact trivial)
    rw [chk_t (show ok3 v from ⟨h0 (by omega), h1 (by omega), h2 (by omega)⟩)]
    exact ⟨fun h => absurd h (by decide), fun _ => rfl⟩
theorem Tryz.vcheck (v : S3) (h : szS 1000000 v) : Con Tryz.prog Tryz.L 78 [.agg (svD v)] (.int .i64 (chk (ok3 v))) := by
  have hn := Tryz.vnumbers v h
  refine rule78 Tryz.hL rfl rfl rfl ?_
  simp only [svD, pc78, rs78, oU, oC, evX, evY, evZ, forall_const, implies_true, initE, stepF, D.clean, mvF, moF, tkF, shF, ariF, ciF, catF, scF, ebF, eqF, eqOk, eqPr, enF, notF, ngF, cvF, csF, csbF, lenF, lenSF, ixF, iaF, PX.slot, iaAF, faF, ldF, D.mem, stF, bxF, mkSF, boundF, fldF, ixAF, mmF2, D.plain, D.isPure, optAll, D.dull, callVF, splice, D.cells, D.one, sets, resT, D.flat, D.flat0, D.simple, Nat.reduceBNe, Nat.reduceLT, reduceIte, Nat.reduceEqDiff, Nat.reduceAdd, Nat.reduceMul, Nat.reduceSub, Nat.reduceLeDiff, Int.reduceToNat, Int.reduceLT, Int.reduceLE, Int.reduceEq, Int.reduceNeg, Int.reduceSub, Int.reduceAdd, Int.reduceMul, stG_own] at hn ⊢
  refine callF_of hn ?_
  (refine ev ?_; try with_reducible exact trivial)
set_option maxHeartbeats 4000000 in
theorem Tryz.snumbers (l : List S3) (hl : l.length ≤ 1000) (h : ∀ v ∈ l, szS 1000000 v) : Con Tryz.prog Tryz.L 46 [lS l] (.int .i64 (numE l)) := by
  refine rule46 Tryz.hL rfl rfl rfl ?_
  (simp only [pc46, rs46, oU, oC]; refine ev ?_; try with_reducible exact trivial)
  refine loopF_of (fun E => ∃ k : Nat, k ≤ l.length ∧ (∀ j v, j < k → l[j]? = some v → ok3 v) ∧ E = [(6, lS l), (7, .int .i64 l.length), (8, .int .i64 k)])
    (fun E => match lk E 8 with | .int _ i => l.length - i.toNat | _ => 0) ⟨0, by omega, fun j v hj => by omega, rfl⟩ ?_
  rintro _ ⟨k, hk, hno, rfl⟩
  simp only [evX, evY, evZ, forall_const, implies_true, initE, stepF, D.clean, mvF, moF, tkF, shF, ariF, ciF, catF, scF, ebF, eqF, eqOk, eqPr, enF, notF, ngF, cvF, csF, csbF, lenF, lenSF, ixF, iaF, PX.slot, iaAF, faF, ldF, D.mem, stF, bxF, mkSF, boundF, fldF, ixAF, mmF2, D.plain, D.isPure, optAll, D.dull, callVF, splice, D.cells, D.one, sets, resT, D.flat, D.flat0, D.simple, Nat.reduceBNe, Nat.reduceLT, reduceIte, Nat.reduceEqDiff, Nat.reduceAdd, Nat.reduceMul, Nat.reduceSub, Nat.reduceLeDiff, Int.reduceToNat, Int.reduceLT, Int.reduceLE, Int.reduceEq, Int.reduceNeg, Int.reduceSub, Int.reduceAdd, Int.reduceMul, stG_own, ldC_svs]
  refine ⟨fun h1 => ?_, fun h1 => ?_⟩
  · have hx : l[k]? = some (l[k]'(by omega)) := List.getElem?_eq_getElem (by omega)
    generalize l[k]'(by omega) = x at hx
    have hmx := List.mem_of_getElem? hx
    refine ⟨⟨by omega, by omega, by rw [svs_len]; omega⟩, x, hx, ?_⟩
    have hc := Tryz.vcheck x (h x hmx)
    simp only [svD, evX, evY, evZ, forall_const, implies_true, initE, stepF, D.clean, mvF, moF, tkF, shF, ariF, ciF, catF, scF, ebF, eqF, eqOk, eqPr, enF, notF, ngF, cvF, csF, csbF, lenF, lenSF, ixF, iaF, PX.slot, iaAF, faF, ldF, D.mem, stF, bxF, mkSF, boundF, fldF, ixAF, mmF2, D.plain, D.isPure, optAll, D.dull, callVF, splice, D.cells, D.one, sets, resT, D.flat, D.flat0, D.simple, Nat.reduceBNe, Nat.reduceLT, reduceIte, Nat.reduceEqDiff, Nat.reduceAdd, Nat.reduceMul, Nat.reduceSub, Nat.reduceLeDiff, Int.reduceToNat, Int.reduceLT, Int.reduceLE, Int.reduceEq, Int.reduceNeg, Int.reduceSub, Int.reduceAdd, Int.reduceMul, stG_own] at hc ⊢
    refine callF_of hc ?_
    (refine ev ?_; try with_reducible exact trivial)
    refine ⟨fun h2 => ?_, fun h2 => ⟨by omega, ⟨k + 1, by omega, fun j v hj hv => ?_, rfl⟩, by omega⟩⟩
    · have hb : ¬ok3 x := fun hh => h2 (chk_0.2 hh)
      rw [chk_f hb, numE, chk_f (fun hh => hb (hh x hmx))]
    · by_cases e : j = k
      · rw [e, hx] at hv; cases hv; exact chk_0.1 (Classical.not_not.1 h2)
      · exact hno j v (by omega) hv
  · rw [numE, chk_t]
    intro v hv
    obtain ⟨j, hj, e⟩ := List.getElem_of_mem hv
    exact hno j v (by omega) (by rw [List.getElem?_eq_getElem hj, e])
set_option maxHeartbeats 4000000 in
theorem Tryz.vindex {f : Nat} {caps : List D} (p : S3 → Bool) (l : List S3) (hl : l.length ≤ 1000) (h : ∀ x ∈ l, Con Tryz.prog Tryz.L f ([.agg (svD x)] ++ caps) (.bool (p x))) :
    Con Tryz.prog Tryz.L 72 [lS l, .clo f caps] (.int .i64 (ixA p l 0)) := by
  refine rule72 Tryz.hL rfl rfl rfl ?_
  (simp only [pc72, rs72, oU, oC]; refine ev ?_; try with_reducible exact trivial)
  refine loopF_of (fun E => ∃ k : Nat, k ≤ l.length ∧ ixA p l 0 = ixA p (l.drop k) k ∧ E = [(0, lS l), (1, .clo f caps), (7, .int .i64 l.length), (8, .int .i64 k)])
    (fun E => match lk E 8 with | .int _ i => l.length - i.toNat | _ => 0) ⟨0, Nat.zero_le _, rfl, rfl⟩ ?_
  rintro _ ⟨k, hk, hi, rfl⟩
  simp only [evX, evY, evZ, forall_const, implies_true, initE, stepF, D.clean, mvF, moF, tkF, shF, ariF, ciF, catF, scF, ebF, eqF, eqOk, eqPr, enF, notF, ngF, cvF, csF, csbF, lenF, lenSF, ixF, iaF, PX.slot, iaAF, faF, ldF, D.mem, stF, bxF, mkSF, boundF, fldF, ixAF, mmF2, D.plain, D.isPure, optAll, D.dull, callVF, splice, D.cells, D.one, sets, resT, D.flat, D.flat0, D.simple, Nat.reduceBNe, Nat.reduceLT, reduceIte, Nat.reduceEqDiff, Nat.reduceAdd, Nat.reduceMul, Nat.reduceSub, Nat.reduceLeDiff, Int.reduceToNat, Int.reduceLT, Int.reduceLE, Int.reduceEq, Int.reduceNeg, Int.reduceSub, Int.reduceAdd, Int.reduceMul, stG_own, ldC_svs]
  refine ⟨fun h1 => ?_, fun h1 => ?_⟩
  · have hx : l[k]? = some (l[k]'(by omega)) := List.getElem?_eq_getElem (by omega)
    generalize l[k]'(by omega) = x at hx
    have hd := dropc hx
    refine ⟨⟨by omega, by omega, by rw [svs_len]; omega⟩, x, hx, ?_⟩
    refine callF_of (h x (List.mem_of_getElem? hx)) ?_
    (refine ev ?_; try with_reducible exact trivial)
    rw [hd] at hi
    simp only [ixA] at hi
    cases hp : p x with
    | true =>
      (refine ev ?_; try with_reducible exact trivial)
      rw [hi, hp]; rfl
    | false =>
      (refine ev ?_; try with_reducible exact trivial)
      have hi2 : ixA p l 0 = ixA p (l.drop (k + 1)) (k + 1) := by rw [hi, hp]; rfl
      refine ⟨by omega, ⟨k + 1, by omega, hi2, rfl⟩, by omega⟩
  · have : k = l.length := by omega
    subst this
    rw [hi]; simp [ixA]
theorem Tryz.vcontains {f : Nat} {caps : List D} (p : S3 → Bool) (l : List S3) (hl : l.length ≤ 1000) (h : ∀ x ∈ l, Con Tryz.prog Tryz.L f ([.agg (svD x)] ++ caps) (.bool (p x))) :
    Con Tryz.prog Tryz.L 38 [lS l, .clo f caps] (.bool (l.any p)) := by
  refine rule38 Tryz.hL rfl rfl rfl ?_
  (simp only [pc38, rs38, oU, oC]; refine ev ?_; try with_reducible exact trivial)
  refine callF_of (Tryz.vindex p l hl h) ?_
  (refine ev ?_; try with_reducible exact trivial)
  rw [show dB (0 ≤ ixA p l 0) = l.any p by
    cases h2 : l.any p with
    | true => exact dB_iff.2 (ixA_any.2 h2)
    | false => exact dB_not.2 (fun h3 => by rw [ixA_any.1 h3] at h2; cases h2)]
theorem zS_dB (v : S3) : zS v = dB (v.1 = [48] ∧ v.2.1 = [48] ∧ v.2.2 = [48]) := by
  unfold zS
  rw [dB_dec]
  congr 1
  exact propext ⟨fun h => by rw [h]; exact ⟨rfl, rfl, rfl⟩, fun h => Prod.ext h.1 (Prod.ext h.2.1 h.2.2)⟩
theorem Tryz.szero (v : S3) : Con Tryz.prog Tryz.L 48 [.agg (svD v)] (.bool (zS v)) := by
  refine rule48 Tryz.hL rfl rfl rfl ?_
  simp only [svD, pc48, rs48, oU, oC, evX, evY, evZ, forall_const, implies_true, initE, stepF, D.clean, mvF, moF, tkF, shF, ariF, ciF, catF, scF, ebF, eqF, eqOk, eqPr, enF, notF, ngF, cvF, csF, csbF, lenF, lenSF, ixF, iaF, PX.slot, iaAF, faF, ldF, D.mem, stF, bxF, mkSF, boundF, fldF, ixAF, mmF2, D.plain, D.isPure, optAll, D.dull, callVF, splice, D.cells, D.one, sets, resT, D.flat, D.flat0, D.simple, Nat.reduceBNe, Nat.reduceLT, reduceIte, Nat.reduceEqDiff, Nat.reduceAdd, Nat.reduceMul, Nat.reduceSub, Nat.reduceLeDiff, Int.reduceToNat, Int.reduceLT, Int.reduceLE, Int.reduceEq, Int.reduceNeg, Int.reduceSub, Int.reduceAdd, Int.reduceMul, stG_own]
  rw [zS_dB]
  exact ⟨fun a => ⟨fun b => dB_congr ⟨fun c => ⟨a, b, c⟩, fun h => h.2.2⟩, fun b => (dB_not.2 (fun h => b h.2.1)).symm⟩, fun a => (dB_not.2 (fun h => a h.1)).symm⟩
theorem Tryz.kzero (v : S3) : Con Tryz.prog Tryz.L 18 [.agg (svD v)] (.bool (zS v)) := by
  refine rule18 Tryz.hL rfl rfl rfl ?_
  simp only [svD, pc18, rs18, oU, oC, evX, evY, evZ, forall_const, implies_true, initE, stepF, D.clean, mvF, moF, tkF, shF, ariF, ciF, catF, scF, ebF, eqF, eqOk, eqPr, enF, notF, ngF, cvF, csF, csbF, lenF, lenSF, ixF, iaF, PX.slot, iaAF, faF, ldF, D.mem, stF, bxF, mkSF, boundF, fldF, ixAF, mmF2, D.plain, D.isPure, optAll, D.dull, callVF, splice, D.cells, D.one, sets, resT, D.flat, D.flat0, D.simple, Nat.reduceBNe, Nat.reduceLT, reduceIte, Nat.reduceEqDiff, Nat.reduceAdd, Nat.reduceMul, Nat.reduceSub, Nat.reduceLeDiff, Int.reduceToNat, Int.reduceLT, Int.reduceLE, Int.reduceEq, Int.reduceNeg, Int.reduceSub, Int.reduceAdd, Int.reduceMul, stG_own]
  rw [zS_dB]
  exact ⟨fun a => ⟨fun b => dB_congr ⟨fun c => ⟨a, b, c⟩, fun h => h.2.2⟩, fun b => (dB_not.2 (fun h => b h.2.1)).symm⟩, fun a => (dB_not.2 (fun h => a h.1)).symm⟩
theorem Tryz.szeros (l : List S3) (hl : l.length ≤ 1000) : Con Tryz.prog Tryz.L 41 [lS l] (.int .i64 (zerE l)) := by
  refine rule41 Tryz.hL rfl rfl rfl ?_
  (simp only [pc41, rs41, oU, oC]; refine ev ?_; try with_reducible exact trivial)
  refine callF_of (Tryz.vcontains (caps := []) zS l hl (fun x _ => Tryz.szero x)) ?_
  (refine ev ?_; try with_reducible exact trivial)
  unfold zerE
  cases l.any zS <;> (refine ev ?_; try with_reducible exact trivial) <;> first | rfl | trivial | simp
theorem Tryz.snet (k R : Int) : Con Tryz.prog Tryz.L 73 [netD k R] (.int .i64 (netE k R)) := by
  refine rule73 Tryz.hL rfl rfl rfl ?_
  simp only [netD, pc73, rs73, oU, oC, evX, evY, evZ, forall_const, implies_true, initE, stepF, D.clean, mvF, moF, tkF, shF, ariF, ciF, catF, scF, ebF, eqF, eqOk, eqPr, enF, notF, ngF, cvF, csF, csbF, lenF, lenSF, ixF, iaF, PX.slot, iaAF, faF, ldF, D.mem, stF, bxF, mkSF, boundF, fldF, ixAF, mmF2, D.plain, D.isPure, optAll, D.dull, callVF, splice, D.cells, D.one, sets, resT, D.flat, D.flat0, D.simple, Nat.reduceBNe, Nat.reduceLT, reduceIte, Nat.reduceEqDiff, Nat.reduceAdd, Nat.reduceMul, Nat.reduceSub, Nat.reduceLeDiff, Int.reduceToNat, Int.reduceLT, Int.reduceLE, Int.reduceEq, Int.reduceNeg, Int.reduceSub, Int.reduceAdd, Int.reduceMul, stG_own]
  by_cases a : k = 1 <;> by_cases b : k = 2 <;> by_cases c : R < 1 <;> by_cases d : 1000 < R <;> simp [netE, a, b, c, d] <;> omega
theorem Tryz.sopen (k R : Int) (l : List S3) (hl : l.length ≤ 1000) (h : ∀ v ∈ l, szS 1000000 v) : Con Tryz.prog Tryz.L 40 [netD k R, lS l] (.int .i64 (if numE l ≠ 0 then numE l else netE k R)) := by
  have hnet := Tryz.snet k R
  refine rule40 Tryz.hL rfl rfl rfl ?_
  simp only [netD, pc40, rs40, oU, oC, evX, evY, evZ, forall_const, implies_true, initE, stepF, D.clean, mvF, moF, tkF, shF, ariF, ciF, catF, scF, ebF, eqF, eqOk, eqPr, enF, notF, ngF, cvF, csF, csbF, lenF, lenSF, ixF, iaF, PX.slot, iaAF, faF, ldF, D.mem, stF, bxF, mkSF, boundF, fldF, ixAF, mmF2, D.plain, D.isPure, optAll, D.dull, callVF, splice, D.cells, D.one, sets, resT, D.flat, D.flat0, D.simple, Nat.reduceBNe, Nat.reduceLT, reduceIte, Nat.reduceEqDiff, Nat.reduceAdd, Nat.reduceMul, Nat.reduceSub, Nat.reduceLeDiff, Int.reduceToNat, Int.reduceLT, Int.reduceLE, Int.reduceEq, Int.reduceNeg, Int.reduceSub, Int.reduceAdd, Int.reduceMul, stG_own] at hnet ⊢
  refine callF_of (Tryz.snumbers l hl h) ?_
  (refine ev ?_; try with_reducible exact trivial)
  refine ⟨fun h1 => by rw [if_pos h1], fun h1 => ?_⟩
  rw [if_neg h1]
  refine callF_of hnet ?_
  (refine ev ?_; try with_reducible exact trivial)
theorem Tryz.knumbers3 (v : S3) (h : szS 1000000 v) : Con Tryz.prog Tryz.L 75 [.sl 3 (svD v)] (.bool (dB (ok3 v))) := by
  obtain ⟨hx, hy, hz⟩ := h
  refine rule75 Tryz.hL rfl rfl rfl ?_
  simp only [svD, pc75, rs75, oU, oC, evX, evY, evZ, forall_const, implies_true, initE, stepF, D.clean, mvF, moF, tkF, shF, ariF, ciF, catF, scF, ebF, eqF, eqOk, eqPr, enF, notF, ngF, cvF, csF, csbF, lenF, lenSF, ixF, iaF, PX.slot, iaAF, faF, ldF, D.mem, stF, bxF, mkSF, boundF, fldF, ixAF, mmF2, D.plain, D.isPure, optAll, D.dull, callVF, splice, D.cells, D.one, sets, resT, D.flat, D.flat0, D.simple, Nat.reduceBNe, Nat.reduceLT, reduceIte, Nat.reduceEqDiff, Nat.reduceAdd, Nat.reduceMul, Nat.reduceSub, Nat.reduceLeDiff, Int.reduceToNat, Int.reduceLT, Int.reduceLE, Int.reduceEq, Int.reduceNeg, Int.reduceSub, Int.reduceAdd, Int.reduceMul, stG_own]
  refine loopF_of (fun E => ∃ k : Nat, k ≤ 3 ∧ (0 < k → okR v.1) ∧ (1 < k → okR v.2.1) ∧ (2 < k → okR v.2.2) ∧ E = [(0, .sl 3 [.str v.1, .str v.2.1, .str v.2.2]), (3, .int .i64 k)])
    (fun E => match lk E 3 with | .int _ i => 3 - i.toNat | _ => 0) ⟨0, by omega, by omega, by omega, by omega, rfl⟩ ?_
  rintro _ ⟨k, hk, h0, h1, h2, rfl⟩
  obtain rfl | rfl | rfl | rfl : k = 0 ∨ k = 1 ∨ k = 2 ∨ k = 3 := by omega
  · (refine ev ?_; try with_reducible exact trivial)
    refine ⟨fun _ => ⟨⟨by decide, by decide⟩, ?_⟩, fun h => absurd (by decide) h⟩
    refine callF_of (Tryz.qright v.1 hx) ?_
    (refine ev ?_; try with_reducible exact trivial)
    refine ⟨fun h => ?_, fun h => ⟨⟨by decide, by decide⟩, ⟨1, by omega, fun _ => Classical.not_not.1 h, by omega, by omega, rfl⟩, by decide⟩⟩
    rw [dB_not.2 (fun hh : ok3 v => h hh.1)]
  · (refine ev ?_; try with_reducible exact trivial)
    refine ⟨fun _ => ⟨⟨by decide, by decide⟩, ?_⟩, fun h => absurd (by decide) h⟩
    refine callF_of (Tryz.qright v.2.1 hy) ?_
    (refine ev ?_; try with_reducible exact trivial)
    refine ⟨fun h => ?_, fun h => ⟨⟨by decide, by decide⟩, ⟨2, by omega, fun _ => h0 (by omega), fun _ => Classical.not_not.1 h, by omega, rfl⟩, by decide⟩⟩
    rw [dB_not.2 (fun hh : ok3 v => h hh.2.1)]
  · (refine ev ?_; try with_reducible exact trivial)
    refine ⟨fun _ => ⟨⟨by decide, by decide⟩, ?_⟩, fun h => absurd (by decide) h⟩
    refine callF_of (Tryz.qright v.2.2 hz) ?_
    (refine ev ?_; try with_reducible exact trivial)
    refine ⟨fun h => ?_, fun h => ⟨⟨by decide, by decide⟩, ⟨3, by omega, fun _ => h0 (by omega), fun _ => h1 (by omega), fun _ => Classical.not_not.1 h, rfl⟩, by decide⟩⟩
    rw [dB_not.2 (fun hh : ok3 v => h hh.2.2)]
  · (refine ev ?_; try with_reducible exact trivial)
    rw [dB_iff.2 (show ok3 v from ⟨h0 (by omega), h1 (by omega), h2 (by omega)⟩)]
    exact ⟨fun h => absurd h (by decide), fun _ => rfl⟩
theorem Tryz.kright (v : S3) (h : szS 1000000 v) : Con Tryz.prog Tryz.L 44 [.agg (svD v)] (.bool (dB (ok3 v))) := by
  have hn := Tryz.knumbers3 v h
  have hl := Con.flat (Tryz.klist v h)
  refine rule44 Tryz.hL rfl rfl rfl ?_
  simp only [svD, pc44, rs44, oU, oC, evX, evY, evZ, forall_const, implies_true, initE, stepF, D.clean, mvF, moF, tkF, shF, ariF, ciF, catF, scF, ebF, eqF, eqOk, eqPr, enF, notF, ngF, cvF, csF, csbF, lenF, lenSF, ixF, iaF, PX.slot, iaAF, faF, ldF, D.mem, stF, bxF, mkSF, boundF, fldF, ixAF, mmF2, D.plain, D.isPure, optAll, D.dull, callVF, splice, D.cells, D.one, sets, resT, D.flat, D.flat0, D.simple, Nat.reduceBNe, Nat.reduceLT, reduceIte, Nat.reduceEqDiff, Nat.reduceAdd, Nat.reduceMul, Nat.reduceSub, Nat.reduceLeDiff, Int.reduceToNat, Int.reduceLT, Int.reduceLE, Int.reduceEq, Int.reduceNeg, Int.reduceSub, Int.reduceAdd, Int.reduceMul, stG_own] at hn hl ⊢
  refine callF_of hl ?_
  (refine ev ?_; try with_reducible exact trivial)
  refine callF_of hn ?_
  (refine ev ?_; try with_reducible exact trivial)
end Go.Proofs

/-
  STEREONET: the program's reaches, round, pixel. Own work.
-/
namespace Go.Proofs
open Go Go.Pi Go.RowKit Go.Ar Go.Ne

def areaB (k : Int) : Bool := decide (k ≠ 1)
theorem rd_nat {R k : Nat} (hk : 0 < k) (h : R < 10 ^ k) : rd (R : Rat) ≤ k := by
  have := rd_int (z := (R : Int)) hk (by rw [Int.natAbs_natCast]; exact h)
  rwa [Rat.intCast_natCast] at this
set_option maxHeartbeats 4000000 in
theorem Tryz.sreaches (k : Int) (R : Nat) (hR : R ≤ 1000) (x : Rat) (v : V3) (h : Rat) (hx : rd x ≤ 200) (hv : Sz3 200 v) (hh : rd h ≤ 10) :
    Con Tryz.prog Tryz.L 111 [netD k R, .str (rt x), .agg (svD (tx3 v)), .str (rt h)] (.bool (reachP (areaB k) R x v.2.2 (dot3 v v) h)) := by
  have rR : rd (R : Rat) ≤ 4 := rd_nat (by decide) (by omega)
  have cw := Tryz.rwhole (R : Int) (by rw [inR_i64]; omega)
  rw [Rat.intCast_natCast] at cw
  have cd := Tryz.sdot v v (hv.more (by decide)) (hv.more (by decide))
  have ds := sz_dot hv hv
  obtain ⟨v1, v2, v3⟩ := hv
  have e1 := rd_mul x R
  have e2 := rd_mul h v.2.2
  have e3 := rd_add (x * R) (h * v.2.2)
  have e4 := rd_mul (x * R) (x * R)
  have e5 := rd_mul h h
  have e6 := rd_mul (h * h) (dot3 v v)
  have e7 := rd_sub (x * R * (x * R)) (h * h * dot3 v v)
  have e8 := rd_mul (h * h) v.2.2
  have p1 := sgn_nonneg (x * R)
  have p2 := sgn_nonneg h
  refine rule111 Tryz.hL rfl rfl rfl ?_
  have hv3 : tx3 v = (rt v.1, rt v.2.1, rt v.2.2) := rfl
  simp only [netD, svD, hv3, pc111, rs111, oU, oC, evX, evY, evZ, forall_const, implies_true, initE, stepF, D.clean, mvF, moF, tkF, shF, ariF, ciF, catF, scF, ebF, eqF, eqOk, eqPr, enF, notF, ngF, cvF, csF, csbF, lenF, lenSF, ixF, iaF, PX.slot, iaAF, faF, ldF, D.mem, stF, bxF, mkSF, boundF, fldF, ixAF, mmF2, D.plain, D.isPure, optAll, D.dull, callVF, splice, D.cells, D.one, sets, resT, D.flat, D.flat0, D.simple, Nat.reduceBNe, Nat.reduceLT, reduceIte, Nat.reduceEqDiff, Nat.reduceAdd, Nat.reduceMul, Nat.reduceSub, Nat.reduceLeDiff, Int.reduceToNat, Int.reduceLT, Int.reduceLE, Int.reduceEq, Int.reduceNeg, Int.reduceSub, Int.reduceAdd, Int.reduceMul, stG_own] at cd ⊢
  generalize hs : dot3 v v = s at *
  refine callF_of cw ?_
  (refine ev ?_; try with_reducible exact trivial)
  refine callF_of (Tryz.rmul x R (by omega) (by omega)) ?_
  (refine ev ?_; try with_reducible exact trivial)
  refine callF_of cd ?_
  (refine ev ?_; try with_reducible exact trivial)
  unfold reachP areaB
  refine ⟨fun hk => ?_, fun hk => ?_⟩
  · refine callF_of (Tryz.rmul h v.2.2 (by omega) (by omega)) ?_
    (refine ev ?_; try with_reducible exact trivial)
    refine callF_of (Tryz.radd (x * R) (h * v.2.2) (by omega) (by omega)) ?_
    (refine ev ?_; try with_reducible exact trivial)
    refine callF_of (Tryz.satLeast (x * R + h * v.2.2) h s (by omega) (by omega) (by omega)) ?_
    (refine ev ?_; try with_reducible exact trivial)
    rw [hk]; simp
  · rw [show decide (k ≠ 1) = true from decide_eq_true hk, if_pos rfl]
    refine callF_of (Tryz.rmul (x * R) (x * R) (by omega) (by omega)) ?_
    (refine ev ?_; try with_reducible exact trivial)
    refine callF_of (Tryz.rmul h h (by omega) (by omega)) ?_
    (refine ev ?_; try with_reducible exact trivial)
    refine callF_of (Tryz.rmul (h * h) s (by omega) (by omega)) ?_
    (refine ev ?_; try with_reducible exact trivial)
    refine callF_of (Tryz.rsub (x * R * (x * R)) (h * h * s) (by omega) (by omega)) ?_
    (refine ev ?_; try with_reducible exact trivial)
    refine callF_of (Tryz.rmul h h (by omega) (by omega)) ?_
    (refine ev ?_; try with_reducible exact trivial)
    refine callF_of (Tryz.rmul (h * h) v.2.2 (by omega) (by omega)) ?_
    (refine ev ?_; try with_reducible exact trivial)
    refine callF_of (Tryz.rneg (h * h * v.2.2) (by omega)) ?_
    (refine ev ?_; try with_reducible exact trivial)
    refine callF_of (Tryz.rsign h (by omega)) ?_
    (refine ev ?_; try with_reducible exact trivial)
    refine ⟨fun h1 => ?_, fun h1 => ?_⟩
    · rw [if_pos (p2.1 h1)]
      refine callF_of (Tryz.rsign (x * R) (by omega)) ?_
      (refine ev ?_; try with_reducible exact trivial)
      refine ⟨fun h2 => ?_, fun h2 => ?_⟩
      · refine callF_of (Tryz.satLeast (x * R * (x * R) - h * h * s) (-(h * h * v.2.2)) s (by omega) (by rw [rd_neg]; omega) (by omega)) ?_
        (refine ev ?_; try with_reducible exact trivial)
        rw [decide_eq_true (p1.1 h2), Bool.true_and]
      · rw [decide_eq_false (fun hh => h2 (p1.2 hh)), Bool.false_and]
    · rw [if_neg (fun hh => h1 (p2.2 hh))]
      refine callF_of (Tryz.rsign (x * R) (by omega)) ?_
      (refine ev ?_; try with_reducible exact trivial)
      refine ⟨fun h2 => ?_, fun h2 => ?_⟩
      · refine callF_of (Tryz.rneg (x * R * (x * R) - h * h * s) (by omega)) ?_
        (refine ev ?_; try with_reducible exact trivial)
        refine callF_of (Tryz.rneg (-(h * h * v.2.2)) (by rw [rd_neg]; omega)) ?_
        (refine ev ?_; try with_reducible exact trivial)
        refine callF_of (Tryz.satLeast (-(x * R * (x * R) - h * h * s)) (-(-(h * h * v.2.2))) s (by rw [rd_neg]; omega) (by rw [rd_neg, rd_neg]; omega) (by omega)) ?_
        (refine ev ?_; try with_reducible exact trivial)
        rw [decide_eq_false (fun hh => h2 (p1.2 hh)), Bool.false_or]
      · rw [decide_eq_true (p1.1 h2), Bool.true_or]
end Go.Proofs

/-
  STEREONET: the program's round and pixel. Own work.
-/
namespace Go.Proofs
open Go Go.Pi Go.RowKit Go.Ar Go.Ne

theorem rd_half {n : Int} (h : n.natAbs < 10000) : rd (mkRat n 2) ≤ 5 := by
  have e : mkRat n 2 = (n : Rat) * mkRat 1 2 := by rw [Rat.mkRat_eq_div, Rat.mkRat_eq_div]; grind
  have h1 : rd (n : Rat) ≤ 4 := rd_int (by decide) h
  have h2 : rd (mkRat 1 2) ≤ 1 := by decide +kernel
  have := rd_mul (n : Rat) (mkRat 1 2)
  rw [e]; omega
theorem two_half (n : Int) : 2 * mkRat n 2 = (n : Rat) := by rw [Rat.mkRat_eq_div]; grind
set_option maxHeartbeats 4000000 in
theorem Tryz.sround (k : Int) (R : Nat) (h1 : 1 ≤ R) (hR : R ≤ 1000) (x : Rat) (v : V3) (hx : rd x ≤ 200) (hv : Sz3 200 v) (hc : x * x ≤ dot3 v v) (hz : 0 ≤ -v.2.2) :
    Con Tryz.prog Tryz.L 74 [netD k R, .str (rt x), .agg (svD (tx3 v))] (.int .i64 (pix (areaB k) R x (-v.2.2) (dot3 v v))) := by
  have hge := pix_ge (area := areaB k) (R := R) (c := x) (d := -v.2.2) (s := dot3 v v)
  have hiff : ∀ m : Int, -(R : Int) ≤ m → m ≤ R → (hit (areaB k) R x (-v.2.2) (dot3 v v) ((2 * m - 1 : Int) : Rat) ↔ m ≤ pix (areaB k) R x (-v.2.2) (dot3 v v)) := fun m a b => pix_iff hc hz a b
  have hRp : (0 : Rat) < R := by have := Rat.natCast_pos.2 h1; exact this
  have hre := fun h (hh : rd h ≤ 10) => Tryz.sreaches k R hR x v h hx hv hh
  simp only [reachP_hit hRp] at hre
  generalize pix (areaB k) R x (-v.2.2) (dot3 v v) = p at *
  refine rule74 Tryz.hL rfl rfl rfl ?_
  simp only [netD, svD, pc74, rs74, oU, oC, evX, evY, evZ, forall_const, implies_true, initE, stepF, D.clean, mvF, moF, tkF, shF, ariF, ciF, catF, scF, ebF, eqF, eqOk, eqPr, enF, notF, ngF, cvF, csF, csbF, lenF, lenSF, ixF, iaF, PX.slot, iaAF, faF, ldF, D.mem, stF, bxF, mkSF, boundF, fldF, ixAF, mmF2, D.plain, D.isPure, optAll, D.dull, callVF, splice, D.cells, D.one, sets, resT, D.flat, D.flat0, D.simple, Nat.reduceBNe, Nat.reduceLT, reduceIte, Nat.reduceEqDiff, Nat.reduceAdd, Nat.reduceMul, Nat.reduceSub, Nat.reduceLeDiff, Int.reduceToNat, Int.reduceLT, Int.reduceLE, Int.reduceEq, Int.reduceNeg, Int.reduceSub, Int.reduceAdd, Int.reduceMul, stG_own] at hre ⊢
  refine ⟨by omega, ?_⟩
  refine loopF_of (fun E => ∃ lo hi : Int, -(R : Int) ≤ lo ∧ hi ≤ R ∧ lo ≤ p ∧ p ≤ hi ∧ E = [(1, .str (rt x)), (3, .box true [.int .i64 k, .int .i64 R]), (5, .box true [.str (tx3 v).1, .str (tx3 v).2.1, .str (tx3 v).2.2]), (7, .int .i64 lo), (8, .int .i64 hi)])
    (fun E => match lk E 7, lk E 8 with | .int _ a, .int _ b => (b - a).toNat | _, _ => 0) ⟨0 - R, R, by omega, by omega, by omega, by omega, rfl⟩ ?_
  rintro _ ⟨lo, hi, q1, q2, q3, q4, rfl⟩
  (refine ev ?_; try with_reducible exact trivial)
  refine ⟨fun h => ?_, fun h => by rw [show lo = p by omega]⟩
  have htd : (hi - lo + 1).tdiv 2 = (hi - lo + 1) / 2 := Int.tdiv_eq_ediv_of_nonneg (by omega)
  rw [htd]
  obtain ⟨m, hm⟩ : ∃ m, m = lo + (hi - lo + 1) / 2 := ⟨_, rfl⟩
  have hm1 : lo < m ∧ m ≤ hi := by omega
  refine ⟨by omega, by omega, by omega, by omega, by omega, by omega, ?_⟩
  rw [← hm]
  refine callF_of (Tryz.rof (2 * m - 1) 2 (by decide) (by rw [inR_i64]; omega) (by rw [inR_i64]; omega)) ?_
  (refine ev ?_; try with_reducible exact trivial)
  have hr := hre (mkRat (2 * m - 1) 2) (by have := rd_half (n := 2 * m - 1) (by omega); omega)
  rw [two_half] at hr
  have hf := hiff m (by omega) (by omega)
  clear hiff hre
  refine callF_of hr ?_
  by_cases hh : hit (areaB k) R x (-v.2.2) (dot3 v v) ((2 * m - 1 : Int) : Rat)
  · rw [decide_eq_true hh]
    (refine ev ?_; try with_reducible exact trivial)
    exact ⟨⟨m, hi, by omega, by omega, hf.1 hh, by omega, rfl, rfl⟩, by omega⟩
  · rw [decide_eq_false hh]
    (refine ev ?_; try with_reducible exact trivial)
    exact ⟨by omega, ⟨lo, m - 1, by omega, by omega, by omega, (by have : ¬m ≤ p := fun hq => hh (hf.2 hq); omega), rfl, rfl⟩, by omega⟩
def pxD (p : Int × Int) : D := .agg [.int .i64 p.1, .int .i64 p.2]
set_option maxHeartbeats 4000000 in
theorem Tryz.spixel (k : Int) (R : Nat) (h1 : 1 ≤ R) (hR : R ≤ 1000) (v : V3) (hv : Sz3 200 v) :
    Con Tryz.prog Tryz.L 42 [netD k R, .agg (svD (tx3 v))] (pxD (pixV (areaB k) R v)) := by
  have hlw := Tryz.slower v (hv.more (by decide))
  have hl := sz_low hv
  have hz := low_z v
  have hr1 := Tryz.sround k R h1 hR (low3 v).1 (low3 v) hl.1 hl (dot_ge1 _) hz
  have hr2 := Tryz.sround k R h1 hR (low3 v).2.1 (low3 v) hl.2.1 hl (dot_ge2 _) hz
  refine rule42 Tryz.hL rfl rfl rfl ?_
  unfold pixV
  generalize low3 v = w at *
  generalize pix (areaB k) R w.1 (-w.2.2) (dot3 w w) = a at *
  generalize pix (areaB k) R w.2.1 (-w.2.2) (dot3 w w) = b at *
  have hw : ∀ v : V3, tx3 v = (rt v.1, rt v.2.1, rt v.2.2) := fun _ => rfl
  simp only [pxD, netD, svD, hw, pc42, rs42, oU, oC, evX, evY, evZ, forall_const, implies_true, initE, stepF, D.clean, mvF, moF, tkF, shF, ariF, ciF, catF, scF, ebF, eqF, eqOk, eqPr, enF, notF, ngF, cvF, csF, csbF, lenF, lenSF, ixF, iaF, PX.slot, iaAF, faF, ldF, D.mem, stF, bxF, mkSF, boundF, fldF, ixAF, mmF2, D.plain, D.isPure, optAll, D.dull, callVF, splice, D.cells, D.one, sets, resT, D.flat, D.flat0, D.simple, Nat.reduceBNe, Nat.reduceLT, reduceIte, Nat.reduceEqDiff, Nat.reduceAdd, Nat.reduceMul, Nat.reduceSub, Nat.reduceLeDiff, Int.reduceToNat, Int.reduceLT, Int.reduceLE, Int.reduceEq, Int.reduceNeg, Int.reduceSub, Int.reduceAdd, Int.reduceMul, stG_own] at hlw hr1 hr2 ⊢
  refine callF_of hlw ?_
  (refine ev ?_; try with_reducible exact trivial)
  refine callF_of hr1 ?_
  (refine ev ?_; try with_reducible exact trivial)
  refine callF_of hr2 ?_
  (refine ev ?_; try with_reducible exact trivial)
  rfl
end Go.Proofs

/-
  STEREONET: the law's reaches, round, pixel. Own work.
-/
namespace Go.Proofs
open Go Go.Pi Go.RowKit Go.Ar Go.Ne

theorem sgn_neg (q : Rat) : q.num.sign < 0 ↔ q < 0 := by
  have := sgn_nonneg q
  rw [← Rat.not_le, ← this]; omega
theorem Tryz.ldot (a b : V3) (ha : Sz3 300 a) (hb : Sz3 300 b) : Con Tryz.prog Tryz.L 24 [.agg (svD (tx3 a)), .agg (svD (tx3 b))] (.str (rt (dot3 a b))) := by
  have l1 := fun v h => Con.flat (Tryz.klist v h)
  have hlen : ∀ v : V3, Sz3 300 v → szS 1000000 (tx3 v) := fun v h => by
    have a1 := rt_len v.1; have a2 := rt_len v.2.1; have a3 := rt_len v.2.2
    obtain ⟨h1, h2, h3⟩ := h
    exact ⟨by show (rt v.1).length ≤ _; omega, by show (rt v.2.1).length ≤ _; omega, by show (rt v.2.2).length ≤ _; omega⟩
  have la := l1 (tx3 a) (hlen a ha)
  have lb := l1 (tx3 b) (hlen b hb)
  have hd := Tryz.kdot6 a b ha hb
  have hk : Con Tryz.prog Tryz.L 62 [.agg (svD (tx3 a)), .agg (svD (tx3 b))] (.str (rt (dot3 a b))) := by
    refine rule62 Tryz.hL rfl rfl rfl ?_
    simp only [svD, pc62, rs62, oU, oC, evX, evY, evZ, forall_const, implies_true, initE, stepF, D.clean, mvF, moF, tkF, shF, ariF, ciF, catF, scF, ebF, eqF, eqOk, eqPr, enF, notF, ngF, cvF, csF, csbF, lenF, lenSF, ixF, iaF, PX.slot, iaAF, faF, ldF, D.mem, stF, bxF, mkSF, boundF, fldF, ixAF, mmF2, D.plain, D.isPure, optAll, D.dull, callVF, splice, D.cells, D.one, sets, resT, D.flat, D.flat0, D.simple, Nat.reduceBNe, Nat.reduceLT, reduceIte, Nat.reduceEqDiff, Nat.reduceAdd, Nat.reduceMul, Nat.reduceSub, Nat.reduceLeDiff, Int.reduceToNat, Int.reduceLT, Int.reduceLE, Int.reduceEq, Int.reduceNeg, Int.reduceSub, Int.reduceAdd, Int.reduceMul, stG_own] at la lb hd ⊢
    refine callF_of la ?_
    (refine ev ?_; try with_reducible exact trivial)
    refine callF_of lb ?_
    (refine ev ?_; try with_reducible exact trivial)
    refine callF_of hd ?_
    (refine ev ?_; try with_reducible exact trivial)
  refine rule24 Tryz.hL rfl rfl rfl ?_
  simp only [svD, pc24, rs24, oU, oC, evX, evY, evZ, forall_const, implies_true, initE, stepF, D.clean, mvF, moF, tkF, shF, ariF, ciF, catF, scF, ebF, eqF, eqOk, eqPr, enF, notF, ngF, cvF, csF, csbF, lenF, lenSF, ixF, iaF, PX.slot, iaAF, faF, ldF, D.mem, stF, bxF, mkSF, boundF, fldF, ixAF, mmF2, D.plain, D.isPure, optAll, D.dull, callVF, splice, D.cells, D.one, sets, resT, D.flat, D.flat0, D.simple, Nat.reduceBNe, Nat.reduceLT, reduceIte, Nat.reduceEqDiff, Nat.reduceAdd, Nat.reduceMul, Nat.reduceSub, Nat.reduceLeDiff, Int.reduceToNat, Int.reduceLT, Int.reduceLE, Int.reduceEq, Int.reduceNeg, Int.reduceSub, Int.reduceAdd, Int.reduceMul, stG_own] at hk ⊢
  refine callF_of hk ?_
  (refine ev ?_; try with_reducible exact trivial)
theorem Tryz.lmul (a b : Rat) (ha : rd a ≤ 5000) (hb : rd b ≤ 5000) : Con Tryz.prog Tryz.L 25 [.str (rt a), .str (rt b)] (.str (rt (a * b))) := by
  refine rule25 Tryz.hL rfl rfl rfl ?_
  (simp only [pc25, rs25, oU, oC]; refine ev ?_; try with_reducible exact trivial)
  refine callF_of (Tryz.qmul a b ha hb) ?_
  (refine ev ?_; try with_reducible exact trivial)
theorem Tryz.kscale (a : V3) (q : Rat) (ha : Sz3 300 a) (hq : rd q ≤ 300) : Con Tryz.prog Tryz.L 28 [.agg (svD (tx3 a)), .str (rt q)] (.agg (svD (tx3 (sc3 a q)))) := by
  obtain ⟨a1, a2, a3⟩ := ha
  refine rule28 Tryz.hL rfl rfl rfl ?_
  simp only [sc3, tx3, svD, pc28, rs28, oU, oC, evX, evY, evZ, forall_const, implies_true, initE, stepF, D.clean, mvF, moF, tkF, shF, ariF, ciF, catF, scF, ebF, eqF, eqOk, eqPr, enF, notF, ngF, cvF, csF, csbF, lenF, lenSF, ixF, iaF, PX.slot, iaAF, faF, ldF, D.mem, stF, bxF, mkSF, boundF, fldF, ixAF, mmF2, D.plain, D.isPure, optAll, D.dull, callVF, splice, D.cells, D.one, sets, resT, D.flat, D.flat0, D.simple, Nat.reduceBNe, Nat.reduceLT, reduceIte, Nat.reduceEqDiff, Nat.reduceAdd, Nat.reduceMul, Nat.reduceSub, Nat.reduceLeDiff, Int.reduceToNat, Int.reduceLT, Int.reduceLE, Int.reduceEq, Int.reduceNeg, Int.reduceSub, Int.reduceAdd, Int.reduceMul, stG_own]
  refine callF_of (Tryz.qmul a.1 q (by omega) (by omega)) ?_
  (refine ev ?_; try with_reducible exact trivial)
  refine callF_of (Tryz.qmul a.2.1 q (by omega) (by omega)) ?_
  (refine ev ?_; try with_reducible exact trivial)
  refine callF_of (Tryz.qmul a.2.2 q (by omega) (by omega)) ?_
  (refine ev ?_; try with_reducible exact trivial)
  rfl
theorem Tryz.llower (v : V3) (h : Sz3 300 v) : Con Tryz.prog Tryz.L 17 [.agg (svD (tx3 v))] (.agg (svD (tx3 (low3 v)))) := by
  have hsc := Tryz.kscale v (-1) h (by have := rd_m1; omega)
  rw [rt_m1] at hsc
  refine rule17 Tryz.hL rfl rfl rfl ?_
  have hv : tx3 v = (rt v.1, rt v.2.1, rt v.2.2) := rfl
  simp only [svD, pc17, rs17, oU, oC, evX, evY, evZ, forall_const, implies_true, initE, stepF, D.clean, mvF, moF, tkF, shF, ariF, ciF, catF, scF, ebF, eqF, eqOk, eqPr, enF, notF, ngF, cvF, csF, csbF, lenF, lenSF, ixF, iaF, PX.slot, iaAF, faF, ldF, D.mem, stF, bxF, mkSF, boundF, fldF, ixAF, mmF2, D.plain, D.isPure, optAll, D.dull, callVF, splice, D.cells, D.one, sets, resT, D.flat, D.flat0, D.simple, Nat.reduceBNe, Nat.reduceLT, reduceIte, Nat.reduceEqDiff, Nat.reduceAdd, Nat.reduceMul, Nat.reduceSub, Nat.reduceLeDiff, Int.reduceToNat, Int.reduceLT, Int.reduceLE, Int.reduceEq, Int.reduceNeg, Int.reduceSub, Int.reduceAdd, Int.reduceMul, stG_own, hv]
  refine callF_of (Tryz.qsign v.2.2 (by have := h.2.2; omega)) ?_
  (refine ev ?_; try with_reducible exact trivial)
  have hp := sgn_pos v.2.2
  unfold low3
  refine ⟨fun h1 => ?_, fun h1 => ?_⟩
  · rw [if_pos (hp.1 (by omega))]
    refine callF_of hsc ?_
    simp only [svD, evX, evY, evZ, forall_const, implies_true, initE, stepF, D.clean, mvF, moF, tkF, shF, ariF, ciF, catF, scF, ebF, eqF, eqOk, eqPr, enF, notF, ngF, cvF, csF, csbF, lenF, lenSF, ixF, iaF, PX.slot, iaAF, faF, ldF, D.mem, stF, bxF, mkSF, boundF, fldF, ixAF, mmF2, D.plain, D.isPure, optAll, D.dull, callVF, splice, D.cells, D.one, sets, resT, D.flat, D.flat0, D.simple, Nat.reduceBNe, Nat.reduceLT, reduceIte, Nat.reduceEqDiff, Nat.reduceAdd, Nat.reduceMul, Nat.reduceSub, Nat.reduceLeDiff, Int.reduceToNat, Int.reduceLT, Int.reduceLE, Int.reduceEq, Int.reduceNeg, Int.reduceSub, Int.reduceAdd, Int.reduceMul, stG_own]
    rfl
  · rw [if_neg (fun h' => h1 (by have := hp.2 h'; omega))]
    rfl
theorem Tryz.lat (a s b : Rat) (ha : rd a ≤ 1000) (hs : rd s ≤ 2500) (hb : rd b ≤ 2000) : Con Tryz.prog Tryz.L 112 [.str (rt a), .str (rt s), .str (rt b)] (.bool (decide (rle a s b))) := by
  rw [← atM_rle]
  have m1 := rd_mul b b
  have m2 := rd_mul a a
  have m3 := rd_mul (a * a) s
  have c1 := cmpQ_ge (a * a * s) (b * b)
  have c2 := cmpQ_le (a * a * s) (b * b)
  have p1 := sgn_nonneg a
  have p2 := sgn_nonneg b
  have p3 := sgn_pos a
  have p4 := sgn_pos b
  refine rule112 Tryz.hL rfl rfl rfl ?_
  (simp only [pc112, rs112, oU, oC]; refine ev ?_; try with_reducible exact trivial)
  refine callF_of (Tryz.qsign a (by omega)) ?_
  (refine ev ?_; try with_reducible exact trivial)
  refine callF_of (Tryz.qsign b (by omega)) ?_
  (refine ev ?_; try with_reducible exact trivial)
  refine callF_of (Tryz.lmul a a (by omega) (by omega)) ?_
  (refine ev ?_; try with_reducible exact trivial)
  refine callF_of (Tryz.lmul (a * a) s (by omega) (by omega)) ?_
  (refine ev ?_; try with_reducible exact trivial)
  refine callF_of (Tryz.lmul b b (by omega) (by omega)) ?_
  (refine ev ?_; try with_reducible exact trivial)
  have hcmp := Tryz.qcompare (a * a * s) (b * b) (by omega) (by omega)
  have sa := sgn_neg a
  have sb := sgn_neg b
  have hT : a.num.sign ≤ 0 → 0 ≤ b.num.sign → true = atM a s b := fun h1 h2 => by
    unfold atM; rw [if_pos ⟨Rat.not_lt.1 (fun h => by have := p3.2 h; omega), p2.1 h2⟩]
  have hF : 0 ≤ a.num.sign → b.num.sign < 0 → false = atM a s b := fun h1 h2 => by
    have hb0 := sb.1 h2
    unfold atM; rw [if_neg (fun h => Rat.not_le.2 hb0 h.2), if_pos ⟨p1.1 h1, hb0⟩]
  have hP : 0 < a.num.sign → ¬b.num.sign < 0 → dB (cmpQ (a * a * s) (b * b) ≤ 0) = atM a s b := fun h1 h2 => by
    have ha0 := p3.1 h1
    unfold atM; rw [if_neg (fun h => Rat.not_lt.2 h.1 ha0), if_neg (fun h => h2 (sb.2 h.2)), if_pos ha0]
    exact dB_eq c2
  have hN : a.num.sign < 0 → b.num.sign < 0 → dB (0 ≤ cmpQ (a * a * s) (b * b)) = atM a s b := fun h1 h2 => by
    have ha0 := sa.1 h1
    have hb0 := sb.1 h2
    unfold atM; rw [if_neg (fun h => Rat.not_le.2 hb0 h.2), if_neg (fun h => Rat.not_le.2 ha0 h.1), if_neg (fun h => Rat.not_lt.2 (Rat.le_of_lt h) ha0)]
    exact dB_eq c1
  clear p1 p2 p3 p4 c1 c2 sa sb
  repeat' first | apply And.intro | intro _
  all_goals first
    | exact hT (by assumption) (by assumption)
    | exact hF (by assumption) (by assumption)
    | (exfalso; omega)
    | (refine callF_of hcmp ?_; (refine ev ?_; try with_reducible exact trivial); first | exact hP (by omega) (by omega) | exact hN (by omega) (by omega))
set_option maxRecDepth 100000 in
set_option maxHeartbeats 4000000 in
theorem Tryz.lreaches (k : Int) (R : Nat) (h1 : 1 ≤ R) (hR : R ≤ 1000) (v : V3) (c : Rat) (m : Int) (hv : Sz3 200 v) (hc : rd c ≤ 200) (hm : m.natAbs < 10000) :
    Con Tryz.prog Tryz.L 77 [netD k R, .agg (svD (tx3 v)), .str (rt c), .int .i64 m] (.bool (reachL (areaB k) R c (-v.2.2) (dot3 v v) m)) := by
  have rm : rd (m : Rat) ≤ 4 := rd_int (by decide) hm
  have rR : rd (2 * (R : Rat)) ≤ 4 := by
    have := rd_int (z := 2 * (R : Int)) (k := 4) (by decide) (by omega)
    rwa [Rat.intCast_mul, Rat.intCast_natCast] at this
  have cm := Tryz.qof1 m (by rw [inR_i64]; omega)
  have cr := Tryz.qof1 (2 * (R : Int)) (by rw [inR_i64]; omega)
  rw [Rat.intCast_mul, Rat.intCast_natCast] at cr
  have cd := Tryz.ldot v v (hv.more (by decide)) (hv.more (by decide))
  have ds := sz_dot hv hv
  obtain ⟨v1, v2, v3⟩ := hv
  have cn := Tryz.qneg v.2.2 (by omega)
  refine rule77 Tryz.hL rfl rfl rfl ?_
  have hv3 : tx3 v = (rt v.1, rt v.2.1, rt v.2.2) := rfl
  simp only [netD, svD, hv3, pc77, rs77, oU, oC, evX, evY, evZ, forall_const, implies_true, initE, stepF, D.clean, mvF, moF, tkF, shF, ariF, ciF, catF, scF, ebF, eqF, eqOk, eqPr, enF, notF, ngF, cvF, csF, csbF, lenF, lenSF, ixF, iaF, PX.slot, iaAF, faF, ldF, D.mem, stF, bxF, mkSF, boundF, fldF, ixAF, mmF2, D.plain, D.isPure, optAll, D.dull, callVF, splice, D.cells, D.one, sets, resT, D.flat, D.flat0, D.simple, Nat.reduceBNe, Nat.reduceLT, reduceIte, Nat.reduceEqDiff, Nat.reduceAdd, Nat.reduceMul, Nat.reduceSub, Nat.reduceLeDiff, Int.reduceToNat, Int.reduceLT, Int.reduceLE, Int.reduceEq, Int.reduceNeg, Int.reduceSub, Int.reduceAdd, Int.reduceMul, stG_own] at cd ⊢
  have e3 : rd (-v.2.2) ≤ 200 := by rw [rd_neg]; exact v3
  generalize dot3 v v = s at *
  generalize hd : -v.2.2 = d at *
  change Con _ _ _ _ (.str (rt (((2 : Int) : Rat) * (R : Rat)))) at cr
  have e2r : ((2 : Int) : Rat) * (R : Rat) = 2 * (R : Rat) := rfl
  rw [e2r] at cr
  have hp0 : 2 * (R : Rat) * c = 2 * R * c := rfl
  have f1 := rd_mul (2 * (R : Rat)) c
  have f2 := rd_mul (m : Rat) d
  have f3 := rd_sub (2 * (R : Rat) * c) (m * d)
  have f4 := rd_mul (m : Rat) m
  have f5 := rd_mul (2 * (R : Rat) * c) (2 * R * c)
  have f6 := rd_mul ((m : Rat) * m) s
  have f7 := rd_sub (2 * (R : Rat) * c * (2 * R * c)) (m * m * s)
  have f8 := rd_mul ((m : Rat) * m) d
  have p1 := sgn_nonneg (2 * (R : Rat) * c)
  have p2 := sgn_neg (2 * (R : Rat) * c)
  have p3 := sgn_pos (m : Rat)
  have p4 := sgn_nonneg (m : Rat)
  refine callF_of cd ?_
  (refine ev ?_; try with_reducible exact trivial)
  refine callF_of cn ?_
  (refine ev ?_; try with_reducible exact trivial)
  refine callF_of cm ?_
  (refine ev ?_; try with_reducible exact trivial)
  refine ⟨by omega, ?_⟩
  refine callF_of cr ?_
  (refine ev ?_; try with_reducible exact trivial)
  obtain ⟨X, hX⟩ : ∃ X, X = reachL (areaB k) R c d s m := ⟨_, rfl⟩
  rw [← hX]
  unfold reachL areaB at hX
  refine ⟨fun hk => ?_, fun hk => ?_⟩
  · refine callF_of (Tryz.lmul (2 * (R : Rat)) c (by omega) (by omega)) ?_
    (refine ev ?_; try with_reducible exact trivial)
    refine callF_of (Tryz.lmul m d (by omega) (by omega)) ?_
    (refine ev ?_; try with_reducible exact trivial)
    refine callF_of (Tryz.qsub (2 * (R : Rat) * c) (m * d) (by omega) (by omega)) ?_
    (refine ev ?_; try with_reducible exact trivial)
    refine callF_of (Tryz.lat m s (2 * (R : Rat) * c - m * d) (by omega) (by omega) (by omega)) ?_
    (refine ev ?_; try with_reducible exact trivial)
    rw [hX, hk]; simp
  · rw [show decide (k ≠ 1) = true from decide_eq_true hk, if_pos rfl] at hX
    have hT : (m : Rat).num.sign ≤ 0 → 0 ≤ (2 * (R : Rat) * c).num.sign → true = X := fun h1 h2 => by
      rw [hX, if_pos ⟨Rat.not_lt.1 (fun h => by have := p3.2 h; omega), p1.1 h2⟩]
    have hF : 0 ≤ (m : Rat).num.sign → (2 * (R : Rat) * c).num.sign < 0 → false = X := fun h1 h2 => by
      have hb0 := p2.1 h2
      rw [hX, if_neg (fun h => Rat.not_le.2 hb0 h.2), if_pos ⟨p4.1 h1, hb0⟩]
    have hP : 0 < (m : Rat).num.sign → ¬(2 * (R : Rat) * c).num.sign < 0 → decide (rle (m * m * d) s (2 * R * c * (2 * R * c) - m * m * s)) = X := fun h1 h2 => by
      have ha0 := p3.1 h1
      rw [hX, if_neg (fun h => Rat.not_lt.2 h.1 ha0), if_neg (fun h => h2 (p2.2 h.2)), if_pos ha0]
    have hN : (m : Rat).num.sign < 0 → (2 * (R : Rat) * c).num.sign < 0 → decide (rle (-(m * m * d)) s (-(2 * R * c * (2 * R * c) - m * m * s))) = X := fun h1 h2 => by
      have ha0 : ¬0 ≤ (m : Rat) := fun h => by have := p4.2 h; omega
      have hb0 := p2.1 h2
      rw [hX, if_neg (fun h => Rat.not_le.2 hb0 h.2), if_neg (fun h => ha0 h.1), if_neg (fun h => ha0 (Rat.le_of_lt h))]
    clear hX p1 p2 p3 p4
    refine callF_of (Tryz.lmul (2 * (R : Rat)) c (by omega) (by omega)) ?_
    (refine ev ?_; try with_reducible exact trivial)
    refine callF_of (Tryz.lmul m m (by omega) (by omega)) ?_
    (refine ev ?_; try with_reducible exact trivial)
    refine callF_of (Tryz.lmul (2 * (R : Rat) * c) (2 * R * c) (by omega) (by omega)) ?_
    (refine ev ?_; try with_reducible exact trivial)
    refine callF_of (Tryz.lmul (m * m) s (by omega) (by omega)) ?_
    (refine ev ?_; try with_reducible exact trivial)
    refine callF_of (Tryz.qsub (2 * (R : Rat) * c * (2 * R * c)) (m * m * s) (by omega) (by omega)) ?_
    (refine ev ?_; try with_reducible exact trivial)
    refine callF_of (Tryz.qsign m (by omega)) ?_
    (refine ev ?_; try with_reducible exact trivial)
    refine callF_of (Tryz.qsign (2 * (R : Rat) * c) (by omega)) ?_
    (refine ev ?_; try with_reducible exact trivial)
    have k1 := Tryz.lmul (m * m) d (by omega) (by omega)
    have k2 := Tryz.lat (m * m * d) s (2 * R * c * (2 * R * c) - m * m * s) (by omega) (by omega) (by omega)
    have k3 := Tryz.qneg (m * m * d) (by omega)
    have k4 := Tryz.qneg (2 * R * c * (2 * R * c) - m * m * s) (by omega)
    have k5 := Tryz.lat (-(m * m * d)) s (-(2 * R * c * (2 * R * c) - m * m * s)) (by rw [rd_neg]; omega) (by omega) (by rw [rd_neg]; omega)
    clear f1 f2 f3 f4 f5 f6 f7 f8 cm cr cd cn
    repeat' first | apply And.intro | intro _
    all_goals first
      | exact hT (by assumption) (by assumption)
      | exact hF (by assumption) (by assumption)
      | (exfalso; omega)
      | skip
    all_goals
      refine callF_of k1 ?_
      (refine ev ?_; try with_reducible exact trivial)
      first
        | (refine callF_of k2 ?_; (refine ev ?_; try with_reducible exact trivial); exact hP (by omega) (by omega))
        | (refine callF_of k3 ?_; (refine ev ?_; try with_reducible exact trivial); refine callF_of k4 ?_; (refine ev ?_; try with_reducible exact trivial); refine callF_of k5 ?_; (refine ev ?_; try with_reducible exact trivial); exact hN (by omega) (by omega))
end Go.Proofs

/-
  STEREONET: the law's round, pixel, brief; the reference's sums and cross products. Own work.
-/
namespace Go.Proofs
open Go Go.Pi Go.RowKit Go.Ar Go.Ne

set_option maxHeartbeats 4000000 in
theorem Tryz.lround (k : Int) (R : Nat) (h1 : 1 ≤ R) (hR : R ≤ 1000) (x : Rat) (v : V3) (hx : rd x ≤ 200) (hv : Sz3 200 v) (hc : x * x ≤ dot3 v v) (hz : 0 ≤ -v.2.2) :
    Con Tryz.prog Tryz.L 45 [netD k R, .agg (svD (tx3 v)), .str (rt x)] (.int .i64 (pix (areaB k) R x (-v.2.2) (dot3 v v))) := by
  have hge := pix_ge (area := areaB k) (R := R) (c := x) (d := -v.2.2) (s := dot3 v v)
  have hiff : ∀ m : Int, -(R : Int) ≤ m → m ≤ R → (hit (areaB k) R x (-v.2.2) (dot3 v v) ((2 * m - 1 : Int) : Rat) ↔ m ≤ pix (areaB k) R x (-v.2.2) (dot3 v v)) := fun m a b => pix_iff hc hz a b
  have hRp : (0 : Rat) < R := by have := Rat.natCast_pos.2 h1; exact this
  have hre := fun m (hm : m.natAbs < 10000) => Tryz.lreaches k R h1 hR v x m hv hx hm
  simp only [reachL_hit hRp] at hre
  generalize pix (areaB k) R x (-v.2.2) (dot3 v v) = p at *
  refine rule45 Tryz.hL rfl rfl rfl ?_
  simp only [netD, svD, pc45, rs45, oU, oC, evX, evY, evZ, forall_const, implies_true, initE, stepF, D.clean, mvF, moF, tkF, shF, ariF, ciF, catF, scF, ebF, eqF, eqOk, eqPr, enF, notF, ngF, cvF, csF, csbF, lenF, lenSF, ixF, iaF, PX.slot, iaAF, faF, ldF, D.mem, stF, bxF, mkSF, boundF, fldF, ixAF, mmF2, D.plain, D.isPure, optAll, D.dull, callVF, splice, D.cells, D.one, sets, resT, D.flat, D.flat0, D.simple, Nat.reduceBNe, Nat.reduceLT, reduceIte, Nat.reduceEqDiff, Nat.reduceAdd, Nat.reduceMul, Nat.reduceSub, Nat.reduceLeDiff, Int.reduceToNat, Int.reduceLT, Int.reduceLE, Int.reduceEq, Int.reduceNeg, Int.reduceSub, Int.reduceAdd, Int.reduceMul, stG_own] at hre ⊢
  refine ⟨by omega, by omega, by omega, ?_⟩
  refine loopF_of (fun E => ∃ lo hi : Int, -(R : Int) - 1 ≤ lo ∧ hi ≤ (R : Int) + 1 ∧ lo ≤ p ∧ p < hi ∧ E = [(2, .str (rt x)), (3, .box true [.int .i64 k, .int .i64 R]), (4, .box true [.str (tx3 v).1, .str (tx3 v).2.1, .str (tx3 v).2.2]), (7, .int .i64 lo), (8, .int .i64 hi)])
    (fun E => match lk E 7, lk E 8 with | .int _ a, .int _ b => (b - a).toNat | _, _ => 0) ⟨0 - R - 1, R + 1, by omega, by omega, by omega, by omega, rfl⟩ ?_
  rintro _ ⟨lo, hi, q1, q2, q3, q4, rfl⟩
  (refine ev ?_; try with_reducible exact trivial)
  refine ⟨by omega, fun h => ?_, fun h => by rw [show lo = p by omega]⟩
  have htd : (hi - lo).tdiv 2 = (hi - lo) / 2 := Int.tdiv_eq_ediv_of_nonneg (by omega)
  rw [htd]
  obtain ⟨m, hm⟩ : ∃ m, m = lo + (hi - lo) / 2 := ⟨_, rfl⟩
  have hm1 : lo < m ∧ m < hi := by omega
  refine ⟨by omega, by omega, by omega, by omega, by omega, ?_⟩
  rw [← hm]
  have hr := hre (2 * m - 1) (by omega)
  have hf := hiff m (by omega) (by omega)
  clear hiff hre
  refine callF_of hr ?_
  by_cases hh : hit (areaB k) R x (-v.2.2) (dot3 v v) ((2 * m - 1 : Int) : Rat)
  · rw [decide_eq_true hh]
    (refine ev ?_; try with_reducible exact trivial)
    exact ⟨⟨m, hi, by omega, by omega, hf.1 hh, by omega, rfl, rfl⟩, by omega⟩
  · rw [decide_eq_false hh]
    (refine ev ?_; try with_reducible exact trivial)
    exact ⟨⟨lo, m, by omega, by omega, by omega, (by have : ¬m ≤ p := fun hq => hh (hf.2 hq); omega), rfl, rfl⟩, by omega⟩
set_option maxHeartbeats 4000000 in
theorem Tryz.lpixel (k : Int) (R : Nat) (h1 : 1 ≤ R) (hR : R ≤ 1000) (v : V3) (hv : Sz3 200 v) :
    Con Tryz.prog Tryz.L 14 [netD k R, .agg (svD (tx3 v))] (pxD (pixV (areaB k) R v)) := by
  have hlw := Tryz.llower v (hv.more (by decide))
  have hl := sz_low hv
  have hz := low_z v
  have hr1 := Tryz.lround k R h1 hR (low3 v).1 (low3 v) hl.1 hl (dot_ge1 _) hz
  have hr2 := Tryz.lround k R h1 hR (low3 v).2.1 (low3 v) hl.2.1 hl (dot_ge2 _) hz
  refine rule14 Tryz.hL rfl rfl rfl ?_
  unfold pixV
  generalize low3 v = w at *
  generalize pix (areaB k) R w.1 (-w.2.2) (dot3 w w) = a at *
  generalize pix (areaB k) R w.2.1 (-w.2.2) (dot3 w w) = b at *
  have hw : ∀ v : V3, tx3 v = (rt v.1, rt v.2.1, rt v.2.2) := fun _ => rfl
  simp only [pxD, netD, svD, hw, pc14, rs14, oU, oC, evX, evY, evZ, forall_const, implies_true, initE, stepF, D.clean, mvF, moF, tkF, shF, ariF, ciF, catF, scF, ebF, eqF, eqOk, eqPr, enF, notF, ngF, cvF, csF, csbF, lenF, lenSF, ixF, iaF, PX.slot, iaAF, faF, ldF, D.mem, stF, bxF, mkSF, boundF, fldF, ixAF, mmF2, D.plain, D.isPure, optAll, D.dull, callVF, splice, D.cells, D.one, sets, resT, D.flat, D.flat0, D.simple, Nat.reduceBNe, Nat.reduceLT, reduceIte, Nat.reduceEqDiff, Nat.reduceAdd, Nat.reduceMul, Nat.reduceSub, Nat.reduceLeDiff, Int.reduceToNat, Int.reduceLT, Int.reduceLE, Int.reduceEq, Int.reduceNeg, Int.reduceSub, Int.reduceAdd, Int.reduceMul, stG_own] at hlw hr1 hr2 ⊢
  refine callF_of hlw ?_
  (refine ev ?_; try with_reducible exact trivial)
  refine callF_of hr1 ?_
  (refine ev ?_; try with_reducible exact trivial)
  refine callF_of hr2 ?_
  (refine ev ?_; try with_reducible exact trivial)
  rfl
noncomputable def badS (v : S3) : Bool := dB (¬ok3 v)
theorem Tryz.lfirst1 (v : S3) (h : szS 1000000 v) : Con Tryz.prog Tryz.L 43 [.agg (svD v)] (.bool (badS v)) := by
  have hk := Tryz.kright v h
  refine rule43 Tryz.hL rfl rfl rfl ?_
  simp only [svD, pc43, rs43, oU, oC, evX, evY, evZ, forall_const, implies_true, initE, stepF, D.clean, mvF, moF, tkF, shF, ariF, ciF, catF, scF, ebF, eqF, eqOk, eqPr, enF, notF, ngF, cvF, csF, csbF, lenF, lenSF, ixF, iaF, PX.slot, iaAF, faF, ldF, D.mem, stF, bxF, mkSF, boundF, fldF, ixAF, mmF2, D.plain, D.isPure, optAll, D.dull, callVF, splice, D.cells, D.one, sets, resT, D.flat, D.flat0, D.simple, Nat.reduceBNe, Nat.reduceLT, reduceIte, Nat.reduceEqDiff, Nat.reduceAdd, Nat.reduceMul, Nat.reduceSub, Nat.reduceLeDiff, Int.reduceToNat, Int.reduceLT, Int.reduceLE, Int.reduceEq, Int.reduceNeg, Int.reduceSub, Int.reduceAdd, Int.reduceMul, stG_own] at hk ⊢
  refine callF_of hk ?_
  (refine ev ?_; try with_reducible exact trivial)
  rfl
theorem bad_num (l : List S3) : (if l.any badS = true then (2 : Int) else 0) = numE l := by
  unfold numE
  by_cases h : ∀ v ∈ l, ok3 v
  · rw [chk_t h, if_neg]
    intro h'
    obtain ⟨v, hv, hb⟩ := List.any_eq_true.1 h'
    exact (dB_iff.1 hb) (h v hv)
  · rw [chk_f h, if_pos]
    have : ∃ v, v ∈ l ∧ ¬ok3 v := Classical.byContradiction fun hc => h fun v hv => Classical.byContradiction fun hn => hc ⟨v, hv, hn⟩
    obtain ⟨v, hv, hn⟩ := this
    exact List.any_eq_true.2 ⟨v, hv, dB_iff.2 hn⟩
end Go.Proofs

/-
  STEREONET: brief and first in the plain walk. Own work.
-/
namespace Go.Proofs
open Go Go.Pi Go.RowKit Go.Shelf Go.Ar Go.Ne

theorem rep_slice {S : Nat → Nat → Prop} {w : World} {n : Nat} {cs : List D} {v : Value} (h : Rep S w (.sl n cs) v) : ∃ a cap, v = .slice a n cap := by
  cases h with
  | sl0 a cap hc => exact ⟨a, cap, rfl⟩
  | slN => exact ⟨none, 0, rfl⟩
  | sl n ds b off cap vs => exact ⟨_, cap, rfl⟩
noncomputable def longS (v : S3) : Bool := dB (¬szS 12 v)
theorem rep_triple {S : Nat → Nat → Prop} {w : World} {x y z : List UInt8} {v : Value} (h : Rep S w (.agg [.str x, .str y, .str z]) v) : v = .agg #[.string ⟨x.toArray⟩, .string ⟨y.toArray⟩, .string ⟨z.toArray⟩] := by
  cases h with
  | agg ds vs hl h1 h =>
    match vs, hl with
    | [a, b, c], _ =>
      have e1 := (h 0 _ a rfl rfl).str_inv.1
      have e2 := (h 1 _ b rfl rfl).str_inv.1
      have e3 := (h 2 _ c rfl rfl).str_inv.1
      rw [e1, e2, e3]
set_option maxRecDepth 100000 in
set_option maxHeartbeats 2000000 in
theorem Tryz.lbrief1 (v : S3) (h : szS 1048576 v) : Con Tryz.prog Tryz.L 39 [.agg (svD v)] (.bool (longS v)) := by
  obtain ⟨x, y, z⟩ := v
  obtain ⟨hx, hy, hz⟩ := h
  simp only at hx hy hz
  have mixed : Tryz.prog.follows .mixedOrders = true := by kernel_rfl
  have t1 := Tryz.underlying26; have a1 := Tryz.isAgg26; have z1 := Tryz.sizeOf26; have v1 := Tryz.zeroValue26; have u1 := run_underlying Tryz.underlying26
  have t3 := Tryz.underlying4; have a3 := Tryz.isAgg4; have z3 := Tryz.sizeOf4; have v3 := Tryz.zeroValue4; have u3 := run_underlying Tryz.underlying4
  have t4 := Tryz.underlying3; have a4 := Tryz.isAgg3; have z4 := Tryz.sizeOf3; have v4 := Tryz.zeroValue3; have u4 := run_underlying Tryz.underlying3
  have t5 := Tryz.underlying24; have a5 := Tryz.isAgg24; have z5 := Tryz.sizeOf24; have v5 := Tryz.zeroValue24; have u5 := run_underlying Tryz.underlying24
  refine ⟨⟨by kernel_rfl, rfl⟩, fun S W vs hS hL hrep => ?_⟩
  obtain ⟨va, r1, rfl, hra, t1'⟩ := hrep.uncons
  obtain rfl : r1 = [] := List.length_eq_zero_iff.1 t1'.1.symm
  have e := rep_triple hra
  subst e
  clear t1' hrep hra
  show Calls _ _ #[.agg #[.string ⟨x.toArray⟩, .string ⟨y.toArray⟩, .string ⟨z.toArray⟩]] _ _
  go_enter Tryz.func39, Tryz.ntmps39
  go_wp2
  all_goals
    go_ret
    refine ⟨_, rfl, (Below.refl _ W).alloc (Nat.le_refl _) _, ?_⟩
    refine (show longS (x, y, z) = _ from ?_) ▸ Rep.bool _
    refine Eq.trans ?_ (dB_dec _).symm
    refine dB_congr ?_
    simp only [szS]
    split at * <;> omega
theorem Tryz.lbrief (l : List S3) (hl : l.length ≤ 1000) (h : ∀ v ∈ l, szS 1048576 v) : Con Tryz.prog Tryz.L 11 [lS l] (.bool (!l.any longS)) := by
  refine rule11 Tryz.hL rfl rfl rfl ?_
  (simp only [pc11, rs11, oU, oC]; refine ev ?_; try with_reducible exact trivial)
  refine callF_of (Tryz.vcontains (caps := []) longS l hl (fun x hx => Tryz.lbrief1 x (h x hx))) ?_
  (refine ev ?_; try with_reducible exact trivial)
/-- the first error: of numbers, of the net, of directions -/
noncomputable def firE (n : Option (Int × Int)) (l : List S3) : Int :=
  if numE l ≠ 0 then numE l else match n with | none => zerE l | some (k, R) => if netE k R ≠ 0 then netE k R else zerE l
end Go.Proofs

/-
  STEREONET: first with a net, in the plain walk. Own work.
-/
namespace Go.Proofs
open Go Go.Pi Go.RowKit Go.Shelf Go.Ar Go.Ne

theorem rep_net {S : Nat → Nat → Prop} {w : World} {k R : Int} {v : Value} (h : Rep S w (.pt [.int .i64 k, .int .i64 R]) v) : ∃ b off, v = .pointer (some ⟨b, off, none⟩) ∧ (S b off ∧ S b (off + 1)) ∧ w.cell? ⟨b, off, none⟩ = some (.int .i64 k) ∧ w.cell? ⟨b, off + 1, none⟩ = some (.int .i64 R) := by
  cases h with
  | pt ds b off vs hl h1 hr h =>
    match vs, hl with
    | [x, y], _ =>
      obtain rfl := (h 0 _ x rfl rfl).int_inv
      obtain rfl := (h 1 _ y rfl rfl).int_inv
      have e0 := hr 0 _ rfl
      have e1 := hr 1 _ rfl
      exact ⟨b, off, rfl, ⟨e0.1, e1.1⟩, e0.2, e1.2⟩
set_option maxRecDepth 100000 in
set_option maxHeartbeats 8000000 in
theorem Tryz.lfirstP (k R : Int) (l : List S3) (hl : l.length ≤ 1000) (h : ∀ v ∈ l, szS 1000000 v) : Con Tryz.prog Tryz.L 13 [.pt [.int .i64 k, .int .i64 R], .int .i64 0, lS l] (.int .i64 (firE (some (k, R)) l)) := by
  have mixed : Tryz.prog.follows .mixedOrders = true := by kernel_rfl
  have t1 := Tryz.underlying23; have a1 := Tryz.isAgg23; have z1 := Tryz.sizeOf23; have v1 := Tryz.zeroValue23; have u1 := run_underlying Tryz.underlying23
  have t3 := Tryz.underlying4; have a3 := Tryz.isAgg4; have z3 := Tryz.sizeOf4; have v3 := Tryz.zeroValue4; have u3 := run_underlying Tryz.underlying4
  have t4 := Tryz.underlying3; have a4 := Tryz.isAgg3; have z4 := Tryz.sizeOf3; have v4 := Tryz.zeroValue3; have u4 := run_underlying Tryz.underlying3
  have t5 := Tryz.underlying31; have a5 := Tryz.isAgg31; have z5 := Tryz.sizeOf31; have v5 := Tryz.zeroValue31; have u5 := run_underlying Tryz.underlying31
  refine ⟨⟨by kernel_rfl, rfl⟩, fun S W vs hS hL hrep => ?_⟩
  obtain ⟨va, r1, rfl, hra, t1'⟩ := hrep.uncons
  obtain ⟨vb, r2, rfl, hrb, t2'⟩ := t1'.uncons
  obtain ⟨vc, r3, rfl, hrc, t3'⟩ := t2'.uncons
  obtain rfl : r3 = [] := List.length_eq_zero_iff.1 t3'.1.symm
  obtain ⟨nb, no, rfl, hsb, hc0, hc1⟩ := rep_net hra
  obtain rfl : vb = .int .i64 0 := by cases hrb; rfl
  clear t1' t2' t3' hrep hra hrb
  have hC1 := (Tryz.vcontains (f := 43) (caps := []) badS l hl (fun x hx => Tryz.lfirst1 x (h x hx))).2 S W [vc, .func (.func 43) #[] #[]] hS hL (Reps.cons hrc (Reps.cons (.clo _ [] [] rfl (fun i d v h1 => by simp at h1)) .nil))
  obtain ⟨ad, cap, rfl⟩ := rep_slice hrc
  show Calls _ _ #[.pointer (some ⟨nb, no, none⟩), .int .i64 0, .slice ad l.length cap] _ _
  have hF : firE (some (k, R)) l = if l.any badS = true then 2 else if netE k R ≠ 0 then netE k R else if l.any zS = true then 17 else 0 := by
    unfold firE; rw [← bad_num]; cases l.any badS <;> simp [zerE]
  rw [hF]
  obtain ⟨r, hr⟩ : ∃ r, r = (if l.any badS = true then (2 : Int) else if netE k R ≠ 0 then netE k R else if l.any zS = true then 17 else 0) := ⟨_, rfl⟩
  rw [← hr]
  have HS : Hid (∀ b j, S b j → b < W.heap.size) := hS
  clear hF
  cases hb : l.any badS with
  | true =>
    rw [hb] at hC1 hr
    rw [if_pos rfl] at hr
    subst hr
    go_enter Tryz.func13, Tryz.ntmps13
    go_wp2_with (go_at_call 38; refine Calls.mono hC1 ?_; rintro e W1 ⟨v1, rfl, hb1, hr1⟩; obtain rfl : v1 = .bool true := (by cases hr1; rfl); clear hr1)
    go_ret
    exact ⟨_, rfl, hb1, .int _ _⟩
  | false =>
    rw [hb] at hC1 hr
    rw [if_neg (by decide)] at hr
    have hC2 := fun (W1 : World) (hb1 : Below W.heap.size W W1) => (Tryz.vcontains (f := 18) (caps := []) zS l hl (fun x hx => Tryz.kzero x)).2 S W1 [.slice ad l.length cap, .func (.func 18) #[] #[]] (fun b j z => Nat.lt_of_lt_of_le (hS b j z) hb1.size) (Tryz.hL W W1 hL hb1)
      (Reps.cons (hrc.mono (fun _ _ z => z) (fun b o z => hb1.cell (p := ⟨b, o, none⟩) (hS b o z))) (Reps.cons (.clo _ [] [] rfl (fun i d v h1 => by simp at h1)) .nil))
    have hlt := hS _ _ hsb.1
    generalize l.any zS = z at *
    have HR : Hid (r = if netE k R ≠ 0 then netE k R else if z = true then 17 else 0) := hr
    have HL : Hid (nb < W.heap.size) := hlt
    clear hr hlt hb hS hL hrc h hsb
    go_enter Tryz.func13, Tryz.ntmps13
    go_wp2_with (go_at_call 38; refine Calls.mono hC1 ?_; rintro e W1 ⟨v1, rfl, hb1, hr1⟩; obtain rfl : v1 = .bool false := (by cases hr1; rfl); clear hr1; replace hC2 := hC2 W1 hb1; have q0 := (hb1.cell (p := ⟨nb, no, none⟩) HL.out).trans hc0; have q1 := (hb1.cell (p := ⟨nb, no + 1, none⟩) HL.out).trans hc1)
    all_goals first
      | (go_ret
         refine ⟨_, rfl, hb1, ?_⟩
         refine (show r = _ from ?_) ▸ Rep.int _ _
         rw [HR.out]; unfold netE
         clear hC1 hC2
         try simp only [bne_iff_ne, ne_eq, bne_eq_false_iff_eq] at *
         repeat' split
         all_goals omega)
      | (refine Calls.mono hC2 ?_
         rintro e W2 ⟨v2, rfl, hb2, hr2⟩
         obtain rfl : v2 = .bool z := (by cases hr2; rfl)
         clear hr2 hC2
         have hb12 := hb1.trans (hb2.mono hb1.size)
         have e0 : netE k R = 0 := by
           unfold netE
           clear hC1
           try simp only [bne_iff_ne, ne_eq, bne_eq_false_iff_eq] at *
           repeat' split
           all_goals omega
         have hr := HR.out
         rw [e0, if_neg (by simp)] at hr
         clear HR hb1 hb2 q0 q1 hc0 hc1
         cases z
         · simp only [Bool.false_eq_true, if_false] at hr
           subst hr
           go_wp2
           go_ret
           exact ⟨_, rfl, hb12, .int _ _⟩
         · simp only [if_true] at hr
           subst hr
           go_wp2
           go_ret
           exact ⟨_, rfl, hb12, .int _ _⟩)
end Go.Proofs

/-
  STEREONET: Pixel, Lower, Same. Own work.
-/
namespace Go.Proofs
open Go Go.Pi Go.RowKit Go.Ar Go.Ne

/-- the first error: of numbers, of the net, of directions -/
noncomputable def errN (n : Option (Int × Int)) (l : List S3) : Int :=
  if numE l ≠ 0 then numE l else match n with | none => zerE l | some (k, R) => if netE k R ≠ 0 then netE k R else zerE l
theorem num_0 {l : List S3} : numE l = 0 ↔ ∀ v ∈ l, ok3 v := chk_0
theorem net_0 {k R : Int} : netE k R = 0 ↔ (k = 1 ∨ k = 2) ∧ 1 ≤ R ∧ R ≤ 1000 := by
  unfold netE
  repeat' split
  all_goals omega
theorem zer_0 {l : List S3} : zerE l = 0 ↔ l.any zS = false := by
  unfold zerE
  cases l.any zS <;> simp
theorem errN_0 {k R : Int} {l : List S3} : errN (some (k, R)) l = 0 ↔ (∀ v ∈ l, ok3 v) ∧ ((k = 1 ∨ k = 2) ∧ 1 ≤ R ∧ R ≤ 1000) ∧ l.any zS = false := by
  rw [← num_0, ← net_0, ← zer_0]
  unfold errN
  simp only
  by_cases h : numE l = 0 <;> by_cases h2 : netE k R = 0 <;> simp [h, h2]
noncomputable def pixR (k R : Int) (v : S3) : D :=
  if errN (some (k, R)) [v] = 0 then .tup [pxD (pixV (areaB k) R.toNat (val3 v)), .int .i64 0] else .tup [.agg [.int .i64 0, .int .i64 0], .int .i64 (errN (some (k, R)) [v])]
theorem pixR_al (k R : Int) (v : S3) : aliasOf (pixR k R v) = none := by unfold pixR; split <;> rfl
set_option maxHeartbeats 4000000 in
theorem Tryz.sPixel (k R : Int) (v : S3) (h : szS 200 v) : Con Tryz.prog Tryz.L 12 [netD k R, .agg (svD v)] (pixR k R v) := by
  have hsz : ∀ x ∈ [v], szS 1000000 x := fun x hx => by
    obtain rfl : x = v := by simpa using hx
    obtain ⟨a, b, c⟩ := h
    exact ⟨by omega, by omega, by omega⟩
  have ho := Tryz.sopen k R [v] (by simp) hsz
  have hz := Tryz.szeros [v] (by simp)
  have hpx := fun (h0 : errN (some (k, R)) [v] = 0) => by
    obtain ⟨e1, ⟨e2, e3, e4⟩, e5⟩ := errN_0.1 h0
    have e6 := e1 v (by simp)
    have := Tryz.spixel k R.toNat (by omega) (by omega) (val3 v) (val3_sz e6 h)
    rw [← val3_tx e6, show ((R.toNat : Nat) : Int) = R by omega] at this
    exact this
  refine rule12 Tryz.hL (pixR_al _ _ _) rfl rfl ?_
  simp only [netD, svD, pc12, rs12, oU, oC, evX, evY, evZ, forall_const, implies_true, initE, stepF, D.clean, mvF, moF, tkF, shF, ariF, ciF, catF, scF, ebF, eqF, eqOk, eqPr, enF, notF, ngF, cvF, csF, csbF, lenF, lenSF, ixF, iaF, PX.slot, iaAF, faF, ldF, D.mem, stF, bxF, mkSF, boundF, fldF, ixAF, mmF2, D.plain, D.isPure, optAll, D.dull, callVF, splice, D.cells, D.one, sets, resT, D.flat, D.flat0, D.simple, Nat.reduceBNe, Nat.reduceLT, reduceIte, Nat.reduceEqDiff, Nat.reduceAdd, Nat.reduceMul, Nat.reduceSub, Nat.reduceLeDiff, Int.reduceToNat, Int.reduceLT, Int.reduceLE, Int.reduceEq, Int.reduceNeg, Int.reduceSub, Int.reduceAdd, Int.reduceMul, stG_own] at hpx ho ⊢
  refine callF_of ho ?_
  (refine ev ?_; try with_reducible exact trivial)
  unfold pixR
  refine ⟨fun h1 => ?_, fun h1 => ?_⟩
  · have e : errN (some (k, R)) [v] = if numE [v] ≠ 0 then numE [v] else netE k R := by
      unfold errN
      simp only
      by_cases a : numE [v] = 0 <;> by_cases b : netE k R = 0 <;> simp [a, b] at h1 ⊢
    rw [e, if_neg h1]
    rfl
  · have a : numE [v] = 0 := by
      by_cases a : numE [v] = 0
      · exact a
      · simp [a] at h1
    have b : netE k R = 0 := by simpa [a] using h1
    refine callF_of hz ?_
    (refine ev ?_; try with_reducible exact trivial)
    have e : errN (some (k, R)) [v] = zerE [v] := by
      unfold errN
      simp [a, b]
    rw [e] at hpx ⊢
    refine ⟨fun h2 => ?_, fun h2 => ?_⟩
    · rw [if_neg h2]
      rfl
    · rw [if_pos (Classical.not_not.1 h2)]
      refine callF_of (hpx (Classical.not_not.1 h2)) ?_
      simp only [pxD, evX, evY, evZ, forall_const, implies_true, initE, stepF, D.clean, mvF, moF, tkF, shF, ariF, ciF, catF, scF, ebF, eqF, eqOk, eqPr, enF, notF, ngF, cvF, csF, csbF, lenF, lenSF, ixF, iaF, PX.slot, iaAF, faF, ldF, D.mem, stF, bxF, mkSF, boundF, fldF, ixAF, mmF2, D.plain, D.isPure, optAll, D.dull, callVF, splice, D.cells, D.one, sets, resT, D.flat, D.flat0, D.simple, Nat.reduceBNe, Nat.reduceLT, reduceIte, Nat.reduceEqDiff, Nat.reduceAdd, Nat.reduceMul, Nat.reduceSub, Nat.reduceLeDiff, Int.reduceToNat, Int.reduceLT, Int.reduceLE, Int.reduceEq, Int.reduceNeg, Int.reduceSub, Int.reduceAdd, Int.reduceMul, stG_own]
      rfl
noncomputable def lowR (v : S3) : D :=
  if errN none [v] = 0 then .tup [.agg (svD (tx3 (low3 (val3 v)))), .int .i64 0] else .tup [.agg [.str [], .str [], .str []], .int .i64 (errN none [v])]
noncomputable def sameR (a b : S3) : D :=
  if errN none [a, b] = 0 then .tup [.bool (zer3 (crs3 (val3 a) (val3 b))), .int .i64 0] else .tup [.bool false, .int .i64 (errN none [a, b])]
end Go.Proofs
