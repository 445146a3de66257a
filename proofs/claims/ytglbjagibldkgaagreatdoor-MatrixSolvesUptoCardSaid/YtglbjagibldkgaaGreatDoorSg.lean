/-
  ARITHMETIC: klipperef02.Fraction with a negative denominator; Div. Own work.
-/
import Derived.Test.YtglbjagibldkgaaGreatDoorPj
import Derived.Test.YtglbjagibldkgaaGreatDoorSf
set_option linter.unusedVariables false
set_option linter.unusedSimpArgs false
namespace Go.Proofs
open Go Go.Pi Go.RowKit Go.Ar
theorem Tryz.qsmallN (n : Int) (d : Nat) (hd : 0 < d) (hn : ((tz (-n)).length : Int) ≤ 9) (hd2 : ((tz (-(d : Int))).length : Int) ≤ 9) : Con Tryz.prog Tryz.L 84 [.str (tz (-n)), .str (tz (-(d : Int)))] (.str (rt (mkRat n d))) := by
  have s1 := small9 hn
  have s2 := small9 hd2
  rw [Int.natAbs_neg] at s1 s2
  have ha := Tryz.c113 (tz (-n)) (by omega)
  rw [atoi_tz (by omega) (by omega)] at ha
  have hb := Tryz.c113 (tz (-(d : Int))) (by omega)
  rw [atoi_tz (by omega) (by omega)] at hb
  refine rule84 Tryz.hL rfl rfl rfl ?_
  (simp only [pc84, rs84, oU, oC]; refine ev ?_; try with_reducible exact trivial)
  refine callF_of ha ?_
  (refine ev ?_; try with_reducible exact trivial)
  refine callF_of hb ?_
  (refine ev ?_; try with_reducible exact trivial)
  rw [show (0 : Int) - -n = n by omega, show (0 : Int) - -(d : Int) = d by omega]
  refine ⟨fun _ => ⟨by omega, by omega, ?_⟩, fun h => absurd (show -(d : Int) < 0 by omega) h⟩
  refine ⟨fun h => ⟨by omega, ?_⟩, fun h => ?_⟩
  all_goals
    refine loopF_of (fun E => ∃ u v : Int, 0 ≤ u ∧ 0 ≤ v ∧ u < 4000000000000000000 ∧ v < 4000000000000000000 ∧ Nat.gcd u.natAbs v.natAbs = Nat.gcd n.natAbs d ∧
        (E = [(5, .int .i64 n), (7, .int .i64 d), (9, .int .i64 u), (10, .int .i64 v)] ∨ E = [(5, .int .i64 n), (7, .int .i64 d), (9, .int .i64 u), (10, .int .i64 v), (30, .bool (dB (n < 0)))]))
      (fun E => match lk E 10 with | .int _ v => v.natAbs | _ => 0) (by first | exact ⟨0 - n, d, by omega, by omega, by omega, by omega, by rw [show (0 - n).natAbs = n.natAbs by omega]; rfl, .inl rfl⟩ | exact ⟨n, d, by omega, by omega, by omega, by omega, rfl, .inr rfl⟩) ?_
    rintro _ ⟨u, v, hu0, hv0, hu, hv, hg, rfl | rfl⟩
    all_goals
      (refine ev ?_; try with_reducible exact trivial)
      refine ⟨fun h5 => ?_, fun h5 => ?_⟩
      · have h7 := tmod_lt (u := u) h5
        have h8 : 0 ≤ u.tmod v := Int.tmod_nonneg _ hu0
        have h9 : Nat.gcd v.natAbs (u.tmod v).natAbs = Nat.gcd n.natAbs d := by rw [gcd_tmod]; exact hg
        refine ⟨h5, ?_, by omega⟩
        first | exact ⟨v, u.tmod v, hv0, h8, hv, by omega, h9, rfl, rfl⟩ | exact ⟨v, u.tmod v, hv0, h8, hv, by omega, h9, .inl ⟨rfl, rfl⟩⟩
      · have h5 : v = 0 := Decidable.of_not_not h5
        subst h5
        rw [show Nat.gcd u.natAbs (0 : Int).natAbs = u.natAbs from Nat.gcd_zero_right _] at hg
        obtain ⟨w, rfl⟩ : ∃ w : Nat, u = w := ⟨u.natAbs, by omega⟩
        rw [Int.natAbs_natCast] at hg
        subst hg
        have hg0 : 0 < Nat.gcd n.natAbs d := Nat.gcd_pos_of_pos_right _ hd
        have e1 := gcd_tdiv n d
        have b1 := natAbs_div_le n (Nat.gcd n.natAbs d) (Int.ofNat_dvd_left.2 (Nat.gcd_dvd_left _ _))
        have e2 : (d : Int).tdiv (Nat.gcd n.natAbs d : Nat) = ((d / Nat.gcd n.natAbs d : Nat) : Int) := by
          rw [Int.tdiv_eq_ediv_of_nonneg (by omega)]; rfl
        have b2 : d / Nat.gcd n.natAbs d ≤ d := Nat.div_le_self _ _
        rw [rt_mk (by omega), e1, e2]
        generalize Nat.gcd n.natAbs d = g at *
        generalize hy : d / g = y at *
        have ci1 := Tryz.c83 (n / (g : Int)) (by rw [inR_i64]; omega)
        have ci2 := Tryz.c83 (y : Int) (by rw [inR_i64]; omega)
        have l1 := tz_i64_len (z := n / (g : Int)) (by rw [inR_i64]; omega)
        have l2 := tz_i64_len (z := (y : Int)) (by rw [inR_i64]; omega)
        refine ⟨by omega, by omega, by omega, by omega, fun h7 => ?_, fun h7 => ?_⟩
        · rw [if_pos (by omega)]
          refine callF_of ci1 ?_
          (refine ev ?_; try with_reducible exact trivial)
        · rw [if_neg (by omega)]
          refine callF_of ci1 ?_
          (refine ev ?_; try with_reducible exact trivial)
          refine ⟨by (have := l1; simp only [tz] at this; omega), ?_⟩
          refine callF_of ci2 ?_
          (refine ev ?_; try with_reducible exact trivial)
          refine ⟨by (have := l1; have := l2; simp only [tz, List.length_append, List.length_singleton] at *; omega), ?_⟩
          rw [List.append_assoc, List.singleton_append, ← dd_tz]

theorem Tryz.fractionN (n : Int) (d : Nat) (hd : d ≠ 0) (hn : dl n ≤ 20000) (hd2 : (dd d).length ≤ 20000) : Con Tryz.prog Tryz.L 63 [.str (tz (-n)), .str (tz (-(d : Int)))] (.str (rt (mkRat n d))) := by
  have hdd : dl (d : Int) ≤ 20000 := hd2
  have td := tz_dl (-(d : Int))
  have tn := tz_dl (-n)
  rw [dl_neg] at td tn
  refine rule63 Tryz.hL rfl rfl rfl ?_
  (simp only [pc63, rs63, oU, oC]; refine ev ?_; try with_reducible exact trivial)
  have hg0 : 0 < Nat.gcd n.natAbs d := Nat.gcd_pos_of_pos_right _ (by omega)
  have hgl : dl ((Nat.gcd n.natAbs d : Nat) : Int) ≤ 20000 := Nat.le_trans (dd_len_mono (Nat.le_of_dvd (by omega) (Nat.gcd_dvd_right _ _))) hd2
  have m1 := Tryz.xdivMod n (Nat.gcd n.natAbs d : Nat) (by omega) (by omega) (by omega)
  have m2 := Tryz.xdivMod (d : Int) (Nat.gcd n.natAbs d : Nat) (by omega) (by omega) (by omega)
  rw [show (d : Int) / ((Nat.gcd n.natAbs d : Nat) : Int) = ((d / Nat.gcd n.natAbs d : Nat) : Int) from rfl] at m2
  have hsg := Tryz.xsign (-(d : Int)) (by rw [dl_neg]; omega)
  rw [Int.sign_eq_neg_one_of_neg (show -(d : Int) < 0 by omega)] at hsg
  have hn1 := Tryz.xneg (-n) (by rw [dl_neg]; omega)
  have hn2 := Tryz.xneg (-(d : Int)) (by rw [dl_neg]; omega)
  rw [Int.neg_neg] at hn1 hn2
  have hgc := Tryz.xgcd n d (by omega) (by omega)
  rw [Int.natAbs_natCast] at hgc
  have l1 : dl (n / ((Nat.gcd n.natAbs d : Nat) : Int)) ≤ dl n := dl_mono (Int.natAbs_ediv_le_natAbs _ _)
  have l2 : (dd (d / Nat.gcd n.natAbs d)).length ≤ (dd d).length := dd_len_mono (Nat.div_le_self _ _)
  have t1 := tz_dl (n / ((Nat.gcd n.natAbs d : Nat) : Int))
  have e49 : dd (d / Nat.gcd n.natAbs d) = [49] ↔ d / Nat.gcd n.natAbs d = 1 := ⟨fun h => dd_inj (h.trans dd_one.symm), fun h => by rw [h, dd_one]⟩
  have sm := fun h1 h2 => Tryz.qsmallN n d (by omega) h1 h2
  have hrt := rt_mk (n := n) hd
  rw [hrt] at sm ⊢
  refine ⟨fun h => ⟨fun h2 => ?_, fun h2 => ?_⟩, fun h => ?_⟩
  · refine callF_of (sm h h2) ?_
    (refine ev ?_; try with_reducible exact trivial)
  all_goals
    refine callF_of hsg ?_
    (refine ev ?_; try with_reducible exact trivial)
    refine callF_of hn1 ?_
    (refine ev ?_; try with_reducible exact trivial)
    refine callF_of hn2 ?_
    (refine ev ?_; try with_reducible exact trivial)
    refine callF_of hgc ?_
    (refine ev ?_; try with_reducible exact trivial)
    refine callF_of m1 ?_
    (refine ev ?_; try with_reducible exact trivial)
    refine callF_of m2 ?_
    (refine ev ?_; try with_reducible exact trivial)
    rw [dd_tz, e49]
    refine ⟨fun h => by rw [if_pos h], fun h => ?_⟩
    rw [if_neg h]
    refine ⟨by omega, by simp only [List.length_append, List.length_singleton]; omega, ?_⟩
    rw [List.append_assoc]; rfl


theorem inv_pos {b : Rat} (h : 0 < b.num) : mkRat (b.den : Int) b.num.natAbs = b⁻¹ := by
  rw [Rat.inv_def]
  obtain ⟨m, hm⟩ : ∃ m : Nat, b.num = m := ⟨b.num.natAbs, by omega⟩
  rw [hm]; rfl
theorem inv_neg {b : Rat} (h : b.num < 0) : mkRat (-(b.den : Int)) b.num.natAbs = b⁻¹ := by
  rw [Rat.inv_def]
  obtain ⟨m, hm⟩ : ∃ m : Nat, b.num = Int.negSucc m := ⟨b.num.natAbs - 1, by omega⟩
  rw [hm]
  simp only [Rat.divInt, Int.natAbs_negSucc]
  rw [Rat.normalize_eq_mkRat]
theorem Tryz.qdiv (a b : Rat) (ha : rd a ≤ 2000) (hb : rd b ≤ 2000) (h0 : b ≠ 0) : Con Tryz.prog Tryz.L 49 [.str (rt a), .str (rt b)] (.str (rt (a / b))) := by
  have hn0 : b.num ≠ 0 := fun e => h0 (Rat.num_eq_zero.1 e)
  have b1 := rd_num b; have b2 : dl (b.den : Int) ≤ rd b := rd_den b
  have hf : Con Tryz.prog Tryz.L 63 [.str (tz (b.den : Int)), .str (tz b.num)] (.str (rt b⁻¹)) := by
    rcases Int.lt_or_lt_of_ne hn0 with h | h
    · have := Tryz.fractionN (-(b.den : Int)) b.num.natAbs (by omega) (by rw [dl_neg]; omega) (by have : dl b.num = (dd b.num.natAbs).length := rfl; omega)
      rw [Int.neg_neg, show -((b.num.natAbs : Nat) : Int) = b.num by omega] at this
      rw [inv_neg h] at this
      exact this
    · have := Tryz.fraction (b.den : Int) b.num.natAbs (by omega) (by omega) (by have : dl b.num = (dd b.num.natAbs).length := rfl; omega)
      rw [show ((b.num.natAbs : Nat) : Int) = b.num by omega] at this
      rw [inv_pos h] at this
      exact this
  refine rule49 Tryz.hL rfl rfl rfl ?_
  (simp only [pc49, rs49, oU, oC]; refine ev ?_; try with_reducible exact trivial)
  refine callF_of (Tryz.qparts b (by omega)) ?_
  (refine ev ?_; try with_reducible exact trivial)
  refine callF_of hf ?_
  (refine ev ?_; try with_reducible exact trivial)
  refine callF_of (Tryz.qmul a b⁻¹ (by omega) (by rw [rd_inv]; omega)) ?_
  (refine ev ?_; try with_reducible exact trivial)
  rw [Rat.div_def]
end Go.Proofs
