/-
  SURD: result, From, Of. Own work.
-/
import Derived.Test.YtpddmheiacgejaaGreatDoorPj
import Derived.Test.YtpddmheiacgejaaGreatDoorSf
import Derived.Test.YtpddmheiacgejaaGreatDoorEc
namespace Go.Proofs
open Go Go.Pi Go.RowKit Go.Ar

abbrev sg (l : List Tm) : D := .sl l.length (tms l)
theorem tms_at {l : List Tm} {k : Nat} {x : Tm} (h : l[k]? = some x) : List.take 2 (List.drop (k * 2) (tms l)) = tD x := by
  obtain ⟨r, e⟩ := rows_at tD_len h
  rw [e]; rfl
theorem tms_take {l : List Tm} {k : Nat} {x : Tm} (h : l[k]? = some x) : tms (l.take k) ++ tD x = tms (l.take (k + 1)) := by
  rw [← rows_snoc]
  congr 1
  rw [List.take_add_one, h]; rfl
/-- is a term too long? -/
def bigT (x : Tm) : Bool := decide (200 < rd x.1) || decide (200 < dl (x.2 : Int))
theorem chk_rt (q : Rat) : chk (okR (rt q)) = if rd q ≤ 200 then 0 else 2 := by
  split
  · rename_i h; exact chk_t ((okR_rt q).2 h)
  · rename_i h; exact chk_f (fun h2 => h ((okR_rt q).1 h2))
theorem Tryz.result1 (x : Tm) (h1 : rd x.1 ≤ 1000) (h2 : dl (x.2 : Int) ≤ 1000) : Con Tryz.prog Tryz.L 98 ([.agg (tD x)] ++ []) (.bool (bigT x)) := by
  have l1 := rt_len x.1
  have hr := Tryz.rcheck (rt x.1) (by omega)
  rw [chk_rt] at hr
  have hi := Tryz.icheckZ (x.2 : Int) h2
  unfold bigT
  refine rule98 Tryz.hL rfl rfl rfl ?_
  simp only [pc98, rs98, oU, oC, tD, List.append_nil, evX, evY, evZ, forall_const, implies_true, initE, stepF, D.clean, mvF, moF, tkF, shF, ariF, ciF, catF, scF, ebF, eqF, eqOk, eqPr, enF, notF, ngF, cvF, csF, csbF, lenF, lenSF, ixF, iaF, PX.slot, iaAF, faF, ldF, D.mem, stF, bxF, mkSF, boundF, fldF, mmF2, D.plain, D.isPure, optAll, D.dull, callVF, splice, D.cells, D.one, sets, resT, D.flat, D.flat0, D.simple, Nat.reduceBNe, Nat.reduceLT, reduceIte, Nat.reduceEqDiff, Nat.reduceAdd, Nat.reduceMul, Nat.reduceSub, Nat.reduceLeDiff, Int.reduceToNat, Int.reduceLT, Int.reduceLE, Int.reduceEq, Int.reduceNeg, Int.reduceSub, Int.reduceAdd, Int.reduceMul, stG_own]
  refine callF_of hr ?_
  (refine ev ?_; try with_reducible exact trivial)
  refine ⟨fun h3 => ?_, fun h3 => ?_⟩
  · have h4 : rd x.1 ≤ 200 := by
      rcases Nat.lt_or_ge 200 (rd x.1) with h | h
      · rw [if_neg (by omega)] at h3; exact absurd h3 (by decide)
      · exact h
    rw [if_pos h4]
    refine callF_of hi ?_
    (refine ev ?_; try with_reducible exact trivial)
    rw [show decide (200 < rd x.1) = false from decide_eq_false (by omega), Bool.false_or]
    by_cases h5 : dl (x.2 : Int) ≤ 200
    · rw [if_pos h5, show decide (200 < dl (x.2 : Int)) = false from decide_eq_false (by omega), dB_f (by decide)]
    · rw [if_neg h5, show decide (200 < dl (x.2 : Int)) = true from decide_eq_true (by omega), dB_t (by decide)]
  · have h4 : ¬rd x.1 ≤ 200 := fun h => h3 (if_pos h)
    rw [show decide (200 < rd x.1) = true from decide_eq_true (by omega), Bool.true_or]

theorem Tryz.result_ok (l : List Tm) (hl : l.length ≤ 40) (h : ∀ x ∈ l, rd x.1 ≤ 200 ∧ dl (x.2 : Int) ≤ 200) : Con Tryz.prog Tryz.L 51 [sg l] (.tup [sg l, .int .i64 0]) := by
  refine rule51 Tryz.hL rfl rfl rfl ?_
  (simp only [pc51, rs51, oU, oC]; refine ev ?_; try with_reducible exact trivial)
  refine ⟨fun _ => ?_, fun h1 => absurd h1 (by omega)⟩
  have hf : l.any bigT = false := by
    rw [List.any_eq_false]
    intro x hx
    obtain ⟨a, b⟩ := h x hx
    unfold bigT
    rw [show decide (200 < rd x.1) = false from decide_eq_false (by omega), show decide (200 < dl (x.2 : Int)) = false from decide_eq_false (by omega)]; decide
  have hc := Tryz.scontains bigT l (by omega) (fun x hx => Tryz.result1 x (by have := h x hx; omega) (by have := h x hx; omega))
  rw [hf] at hc
  refine callF_of hc ?_
  (refine ev ?_; try with_reducible exact trivial)
  simp [resD_two, rvD, lk, D.plain, D.isPure, optAll]
theorem Tryz.result_big (l : List Tm) (hl : l.length ≤ 1000) (h : ∀ x ∈ l, rd x.1 ≤ 1000 ∧ dl (x.2 : Int) ≤ 1000) (hb : l.any bigT = true) : Con Tryz.prog Tryz.L 51 [sg l] (.tup [.sl 0 [], .int .i64 4]) := by
  refine rule51 Tryz.hL rfl rfl rfl ?_
  (simp only [pc51, rs51, oU, oC]; refine ev ?_; try with_reducible exact trivial)
  have hc := Tryz.scontains bigT l hl (fun x hx => Tryz.result1 x (h x hx).1 (h x hx).2)
  rw [hb] at hc
  refine ⟨fun h1 => ?_, fun h1 => ?_⟩
  · refine callF_of hc ?_
    (refine ev ?_; try with_reducible exact trivial)
    simp [resD_two, rvD, lk, D.plain, D.isPure, optAll]
  · simp [resD_two, rvD, lk, D.plain, D.isPure, optAll]

theorem Tryz.from (q : Rat) (hq : rd q ≤ 200) (h0 : q ≠ 0) : Con Tryz.prog Tryz.L 15 [.str (rt q)] (.tup [sg [(q, 1)], .int .i64 0]) := by
  refine rule15 Tryz.hL rfl rfl rfl ?_
  (simp only [pc15, rs15, oU, oC]; refine ev ?_; try with_reducible exact trivial)
  refine callF_of (Tryz.rcheckQ q hq) ?_
  (refine ev ?_; try with_reducible exact trivial)
  rw [rt_zero]
  refine ⟨fun h1 => absurd h1 h0, fun _ => ?_⟩
  simp [resD_two, rvD, lk, D.plain, D.isPure, optAll, rows, tD, (tz_one (z := 1)).2 rfl]

/-- the answer of Of at a right number -/
def ofL (q : Rat) : List Tm := if isq (q.num.natAbs * q.den) then [(mkRat (nrt (q.num.natAbs * q.den)) q.den, 1)] else [(mkRat 1 q.den, q.num.natAbs * q.den)]
def ofD (q : Rat) : D := if q.num < 0 then .tup [.sl 0 [], .int .i64 3] else if q = 0 then .tup [.sl 0 [], .int .i64 0]
  else if ¬isq (q.num.natAbs * q.den) ∧ 200 < dl ((q.num.natAbs * q.den : Nat) : Int) then .tup [.sl 0 [], .int .i64 4] else .tup [sg (ofL q), .int .i64 0]

theorem nrt_lt {m k : Nat} (h : m < 10 ^ (k + k)) : nrt m < 10 ^ k := by
  have h1 := (nrt_spec m).1
  rcases Nat.lt_or_ge (nrt m) (10 ^ k) with h3 | h3
  · exact h3
  · have h4 := Nat.mul_le_mul h3 h3
    rw [← Nat.pow_add] at h4
    exact absurd (Nat.lt_of_lt_of_le h (Nat.le_trans h4 h1)) (Nat.lt_irrefl _)
theorem nrt_rd {m d k : Nat} (hk : 0 < k) (hd : d ≠ 0) (h : (dd d).length ≤ k) (hm : dl (m : Int) ≤ k + k) : rd (mkRat (nrt m) d) ≤ k := by
  refine rd_mk hd ?_ h
  refine dd_len_le hk ?_
  rw [Int.natAbs_natCast]
  exact nrt_lt (Nat.lt_of_lt_of_le (dd_lt m) (Nat.pow_le_pow_right (by decide) hm))

theorem Tryz.of' (q : Rat) (hq : rd q ≤ 200) : Con Tryz.prog Tryz.L 14 [.str (rt q)] (ofD q) := by
  have hn := rd_num q
  have hd := rd_den q
  have hd0 : q.den ≠ 0 := q.den_nz
  have hdd : dl (q.den : Int) ≤ 200 := by rw [dl_nat]; omega
  refine rule14 Tryz.hL (by unfold ofD; (repeat' split) <;> rfl) rfl rfl ?_
  (simp only [pc14, rs14, oU, oC]; refine ev ?_; try with_reducible exact trivial)
  refine callF_of (Tryz.rcheckQ q hq) ?_
  (refine ev ?_; try with_reducible exact trivial)
  refine callF_of (Tryz.rsign q (by omega)) ?_
  (refine ev ?_; try with_reducible exact trivial)
  rw [rt_zero]
  unfold ofD
  refine ⟨fun h1 => ?_, fun h1 => ⟨fun h2 => ?_, fun h2 => ?_⟩⟩
  · rw [if_pos (Int.sign_eq_neg_one_iff_neg.1 (by rcases Int.sign_trichotomy q.num with h | h | h <;> omega))]
    simp [resD_two, rvD, lk, D.plain, D.isPure, optAll]
  · subst h2
    simp [resD_two, rvD, lk, D.plain, D.isPure, optAll]
  have hnn : ¬q.num < 0 := fun h => by rw [Int.sign_eq_neg_one_iff_neg.2 h] at h1; exact h1 (by decide)
  have hn0 : q.num ≠ 0 := fun h => h2 ((sign_num q).2.1.1 h)
  rw [if_neg hnn, if_neg h2]
  have en : q.num = (q.num.natAbs : Int) := by omega
  have hm := Tryz.mul q.num q.den (by omega) (by omega)
  have hml := dl_mul q.num q.den
  rw [en, ← Int.natCast_mul, ← en] at hm
  rw [en, ← Int.natCast_mul, ← en] at hml
  refine callF_of (Tryz.rparts q (by omega)) ?_
  (refine ev ?_; try with_reducible exact trivial)
  refine callF_of hm ?_
  (refine ev ?_; try with_reducible exact trivial)
  have hmp : 0 < q.num.natAbs * q.den := Nat.mul_pos (by omega) q.den_pos
  have hnr := nrt_rd (m := q.num.natAbs * q.den) (k := 200) (by decide) hd0 (by omega) (by omega)
  have hov := Tryz.over (nrt (q.num.natAbs * q.den)) q.den q.den_pos (by have := dl_nrt (q.num.natAbs * q.den); omega) (by omega)
  have hn1 := dl_nrt (q.num.natAbs * q.den)
  have hrt := Tryz.sroot (q.num.natAbs * q.den) (by omega)
  have ho1 := Tryz.over 1 q.den q.den_pos (by rw [dl_one]; decide) (by omega)
  rw [(tz_one).2 rfl] at ho1
  have hr1 : rd (mkRat 1 q.den) ≤ 200 := rd_mk hd0 (by rw [dl_one]; decide) (by omega)
  have hrn : mkRat (nrt (q.num.natAbs * q.den)) q.den ≠ 0 := by
    intro h
    have := (Rat.mkRat_eq_zero hd0).1 h
    have h3 : nrt (q.num.natAbs * q.den) = 0 := by omega
    rw [nrt_zero] at h3; omega
  have hfr := Tryz.from _ hnr hrn
  unfold ofL
  generalize q.num.natAbs * q.den = m at *
  refine callF_of hrt ?_
  (refine ev ?_; try with_reducible exact trivial)
  refine ⟨fun h3 => ?_, fun h3 => ?_⟩
  · refine callF_of hov ?_
    (refine ev ?_; try with_reducible exact trivial)
    refine callF_of hfr ?_
    (refine ev ?_; try with_reducible exact trivial)
    rw [if_neg (fun h => h.1 h3), if_pos h3]
    simp [resD_two, rvD, lk, D.plain, D.isPure, optAll]
  · refine callF_of ho1 ?_
    (refine ev ?_; try with_reducible exact trivial)
    rw [if_neg h3]
    by_cases h4 : 200 < dl (m : Int)
    · have hb := Tryz.result_big [(mkRat 1 q.den, m)] (by simp) (fun x hx => by rw [List.mem_singleton.1 hx]; exact ⟨by show rd (mkRat 1 q.den) ≤ 1000; omega, by show dl (m : Int) ≤ 1000; omega⟩) (by simp [bigT, h4])
      rw [if_pos ⟨h3, h4⟩]
      refine callF_of hb ?_
      (refine ev ?_; try with_reducible exact trivial)
      simp [resD_two, rvD, lk, D.plain, D.isPure, optAll]
    · have hb := Tryz.result_ok [(mkRat 1 q.den, m)] (by simp) (fun x hx => by rw [List.mem_singleton.1 hx]; exact ⟨by show rd (mkRat 1 q.den) ≤ 200; omega, by show dl (m : Int) ≤ 200; omega⟩)
      rw [if_neg (fun h => h4 h.2)]
      refine callF_of hb ?_
      (refine ev ?_; try with_reducible exact trivial)
      simp [resD_two, rvD, lk, D.plain, D.isPure, optAll]
end Go.Proofs

/-
  SURD: klipperef03: Square, Make, Parts, Of, Same; the law's plain. Own work.
-/
namespace Go.Proofs
open Go Go.Pi Go.RowKit Go.Ar

theorem Tryz.ysquare (n : Nat) (h : dl (n : Int) ≤ 20000) : Con Tryz.prog Tryz.L 53 [.str (tz (n : Int))] (.tup [.str (tz (nrt n : Int)), .bool (dB (isq n))]) := by
  have l1 := dl_nrt n
  refine rule53 Tryz.hL rfl rfl rfl ?_
  (simp only [pc53, rs53, oU, oC]; refine ev ?_; try with_reducible exact trivial)
  refine callF_of (Tryz.xroot n (by omega)) ?_
  (refine ev ?_; try with_reducible exact trivial)
  refine callF_of (Tryz.xmul (nrt n) (nrt n) (by omega) (by omega)) ?_
  (refine ev ?_; try with_reducible exact trivial)
  rw [show dB (tz ((nrt n : Int) * (nrt n : Int)) = tz (n : Int)) = dB (isq n) by rw [tz_eq_iff]; unfold isq; rw [← Int.natCast_mul]; congr 1; exact propext ⟨fun h => by omega, fun h => by omega⟩]
  simp [resD_two, rvD, lk, D.plain, D.isPure, optAll]

theorem Tryz.ymake (n : Int) (d : Nat) (hd : 0 < d) (h1 : dl n ≤ 20000) (h2 : dl (d : Int) ≤ 20000) : Con Tryz.prog Tryz.L 25 [.str (tz n), .str (tz (d : Int))] (.str (rt (mkRat n d))) := by
  refine rule25 Tryz.hL rfl rfl rfl ?_
  (simp only [pc25, rs25, oU, oC]; refine ev ?_; try with_reducible exact trivial)
  refine callF_of (Tryz.xgcd n d (by omega) (by omega)) ?_
  (refine ev ?_; try with_reducible exact trivial)
  rw [Int.natAbs_natCast]
  have hg0 : 0 < Nat.gcd n.natAbs d := Nat.gcd_pos_of_pos_right _ hd
  have hgd : dl ((Nat.gcd n.natAbs d : Nat) : Int) ≤ 20000 := Nat.le_trans (dl_mono (by have := Nat.gcd_le_right n.natAbs hd; omega)) h2
  have hm1 := Tryz.xdivMod n (Nat.gcd n.natAbs d : Nat) (by omega) (by omega) (by omega)
  have hm2 := Tryz.xdivMod d (Nat.gcd n.natAbs d : Nat) (by omega) (by omega) (by omega)
  refine callF_of hm1 ?_
  (refine ev ?_; try with_reducible exact trivial)
  refine callF_of hm2 ?_
  (refine ev ?_; try with_reducible exact trivial)
  rw [rt_mk (by omega : d ≠ 0)]
  have ed : (d : Int) / ((Nat.gcd n.natAbs d : Nat) : Int) = ((d / Nat.gcd n.natAbs d : Nat) : Int) := rfl
  rw [ed, tz_one, dd_tz]
  have hdl := dl_mono (x := n / ((Nat.gcd n.natAbs d : Nat) : Int)) (y := n) (natAbs_div_le n _ (Int.ofNat_dvd_left.2 (Nat.gcd_dvd_left _ _)))
  have htl := tz_dl (n / ((Nat.gcd n.natAbs d : Nat) : Int))
  have hdd : (dd (d / Nat.gcd n.natAbs d)).length ≤ 20000 := Nat.le_trans (dd_len_mono (Nat.div_le_self _ _)) h2
  refine ⟨fun h => by rw [if_pos (by omega)], fun h => ⟨by omega, by rw [List.length_append, List.length_singleton]; omega, ?_⟩⟩
  rw [if_neg (by omega)]; simp

theorem Tryz.ysame (l : List Tm) (hl : l.length ≤ 1000) : Con Tryz.prog Tryz.L 17 [sg l, sg l] (.bool true) := by
  refine rule17 Tryz.hL rfl rfl rfl ?_
  (simp only [pc17, rs17, oU, oC]; refine ev ?_; try with_reducible exact trivial)
  refine loopF_of (fun E => ∃ k : Nat, k ≤ l.length ∧ E = [(0, sg l), (1, sg l), (5, .int .i64 k)])
    (fun E => match lk E 5 with | .int _ i => l.length - i.toNat | _ => 0) ⟨0, Nat.zero_le _, rfl⟩ ?_
  rintro _ ⟨k, hk, rfl⟩
  simp only [evX, evY, evZ, forall_const, implies_true, initE, stepF, D.clean, mvF, moF, tkF, shF, ariF, ciF, catF, scF, ebF, eqF, eqOk, eqPr, enF, notF, ngF, cvF, csF, csbF, lenF, lenSF, ixF, iaF, PX.slot, iaAF, faF, ldF, D.mem, stF, bxF, mkSF, boundF, fldF, mmF2, D.plain, D.isPure, optAll, D.dull, callVF, splice, D.cells, D.one, sets, resT, D.flat, D.flat0, D.simple, Nat.reduceBNe, Nat.reduceLT, reduceIte, Nat.reduceEqDiff, Nat.reduceAdd, Nat.reduceMul, Nat.reduceSub, Nat.reduceLeDiff, Int.reduceToNat, Int.reduceLT, Int.reduceLE, Int.reduceEq, Int.reduceNeg, Int.reduceSub, Int.reduceAdd, Int.reduceMul, stG_own, ldC_tms]
  intro h3
  have hx : l[k]? = some (l[k]'(by omega)) := List.getElem?_eq_getElem (by omega)
  generalize l[k]'(by omega) = x at hx
  refine ⟨⟨by omega, by omega, by rw [rows_length tD_len]; omega⟩, x, hx, ⟨by omega, by omega, by rw [rows_length tD_len]; omega⟩, x, hx, ?_⟩
  have he : eqPr [2, 2] (tD x) (tD x) := by simp [eqPr, tD]
  exact ⟨by simp [eqOk, tD], fun h => absurd he h, fun _ => ⟨by omega, ⟨k + 1, by omega, by simp⟩, by omega⟩⟩

theorem Tryz.plain (l : List Tm) (hl : l.length ≤ 1000) : Con Tryz.prog Tryz.L 18 [sg l] (sg l) := by
  refine Con.flat (wr := true) (e := 39) ?_
  refine rule18 Tryz.hL rfl rfl rfl ?_
  (simp only [pc18, rs18, oU, oC]; refine ev ?_; try with_reducible exact trivial)
  refine loopF_of (fun E => ∃ k : Nat, k ≤ l.length ∧ E = [(0, sg l), (3, .own true 39 k (tms (l.take k))), (4, .int .i64 k)])
    (fun E => match lk E 4 with | .int _ i => l.length - i.toNat | _ => 0) ⟨0, Nat.zero_le _, by simp [rows]⟩ ?_
  rintro _ ⟨k, hk, rfl⟩
  (refine ev ?_; try with_reducible exact trivial)
  refine ⟨fun h3 => ?_, fun h3 => ?_⟩
  · have hx : l[k]? = some (l[k]'(by omega)) := List.getElem?_eq_getElem (by omega)
    generalize l[k]'(by omega) = x at hx
    refine ⟨⟨by omega, by omega, by rw [rows_length tD_len]; omega⟩, ?_⟩
    rw [tms_at hx]
    simp only [tD, evX, evY, evZ, forall_const, implies_true, initE, stepF, D.clean, mvF, moF, tkF, shF, ariF, ciF, catF, scF, ebF, eqF, eqOk, eqPr, enF, notF, ngF, cvF, csF, csbF, lenF, lenSF, ixF, iaF, PX.slot, iaAF, faF, ldF, D.mem, stF, bxF, mkSF, boundF, fldF, mmF2, D.plain, D.isPure, optAll, D.dull, callVF, splice, D.cells, D.one, sets, resT, D.flat, D.flat0, D.simple, Nat.reduceBNe, Nat.reduceLT, reduceIte, Nat.reduceEqDiff, Nat.reduceAdd, Nat.reduceMul, Nat.reduceSub, Nat.reduceLeDiff, Int.reduceToNat, Int.reduceLT, Int.reduceLE, Int.reduceEq, Int.reduceNeg, Int.reduceSub, Int.reduceAdd, Int.reduceMul, stG_own]
    have ht := tms_take hx
    have hkl := rows_length tD_len (l.take k)
    refine ⟨⟨by omega, by omega, by rw [rows_length tD_len]; omega⟩, ?_⟩
    rw [tms_at hx]
    simp only [tD, evX, evY, evZ, forall_const, implies_true, initE, stepF, D.clean, mvF, moF, tkF, shF, ariF, ciF, catF, scF, ebF, eqF, eqOk, eqPr, enF, notF, ngF, cvF, csF, csbF, lenF, lenSF, ixF, iaF, PX.slot, iaAF, faF, ldF, D.mem, stF, bxF, mkSF, boundF, fldF, mmF2, D.plain, D.isPure, optAll, D.dull, callVF, splice, D.cells, D.one, sets, resT, D.flat, D.flat0, D.simple, Nat.reduceBNe, Nat.reduceLT, reduceIte, Nat.reduceEqDiff, Nat.reduceAdd, Nat.reduceMul, Nat.reduceSub, Nat.reduceLeDiff, Int.reduceToNat, Int.reduceLT, Int.reduceLE, Int.reduceEq, Int.reduceNeg, Int.reduceSub, Int.reduceAdd, Int.reduceMul, stG_own]
    exact ⟨by omega, by omega, by omega, ⟨k + 1, by omega, by rw [← ht]; exact ⟨rfl, rfl⟩⟩, by omega⟩
  · have e : k = l.length := by omega
    subst e
    rw [List.take_length]
end Go.Proofs

/-
  SURD: klipperef03: Parts, Of. Own work.
-/
namespace Go.Proofs
open Go Go.Pi Go.RowKit Go.Ar

theorem getD_ne {s : List UInt8} (h : ∀ x ∈ s, x ≠ 47) {k : Nat} (hk : k < s.length) : ¬((s.getD k 0).toNat : Int) = 47 := by
  rw [List.getD_eq_getElem?_getD, List.getElem?_eq_getElem hk, Option.getD_some]
  intro h2
  refine h _ (List.getElem_mem hk) (UInt8.toNat_inj.1 ?_)
  show _ = 47
  omega
theorem getD_app {a b : List UInt8} {k : Nat} (hk : k < a.length) : (a ++ b).getD k 0 = a.getD k 0 := by
  rw [List.getD_eq_getElem?_getD, List.getD_eq_getElem?_getD, List.getElem?_append_left hk]
theorem getD_mid {a b : List UInt8} {c : UInt8} : (a ++ c :: b).getD a.length 0 = c := by
  rw [List.getD_eq_getElem?_getD, List.getElem?_append_right (Nat.le_refl _), Nat.sub_self]; rfl
theorem Tryz.yparts (s : List UInt8) (hs : s.length ≤ 100000) : ∃ a b, Con Tryz.prog Tryz.L 19 [.str s] (.tup [.str a, .str b, .bool (dB (okR s))]) ∧ ∀ q : Rat, s = rt q → a = tz q.num ∧ b = tz (q.den : Int) := by
  rcases cut_cases s 47 with h | ⟨a, b, rfl, h⟩
  · refine ⟨s, [49], ?_, ?_⟩
    · refine rule19 Tryz.hL rfl rfl rfl ?_
      (simp only [pc19, rs19, oU, oC]; refine ev ?_; try with_reducible exact trivial)
      refine loopF_of (fun E => ∃ k : Nat, k ≤ s.length ∧ E = [(5, .str s), (6, .int .i64 (-1)), (7, .int .i64 k)])
        (fun E => match lk E 7 with | .int _ i => s.length - i.toNat | _ => 0) ⟨0, Nat.zero_le _, rfl⟩ ?_
      rintro _ ⟨k, hk, rfl⟩
      (refine ev ?_; try with_reducible exact trivial)
      refine ⟨fun h1 => ⟨by omega, fun h2 => absurd h2 (getD_ne h (by omega)), fun _ => ⟨by omega, ⟨k + 1, by omega, by simp⟩, by omega⟩⟩, fun h1 => ?_⟩
      refine callF_of (Tryz.xright s (by omega)) ?_
      (refine ev ?_; try with_reducible exact trivial)
      rw [show okR s = okZ s from propext (okR_int h)]
      simp [resD, rvD, lk, D.plain, D.isPure, optAll]
    · rintro q rfl
      have hd := rt_noslash.1 h
      exact ⟨rt_int hd, by rw [hd]; exact one_tz.symm⟩
  · refine ⟨a, b, ?_, ?_⟩
    · have hlen : (a ++ 47 :: b).length = a.length + b.length + 1 := by simp; omega
      have e1 := take_mid (a := a) (b := b) (c := 47)
      have e2 := drop_mid (a := a) (b := b) (c := 47)
      have g1 := fun k (hk : k < a.length) => (congrArg (fun x : UInt8 => (x.toNat : Int) = 47) (getD_app (b := 47 :: b) hk))
      have g2 := getD_mid (a := a) (b := b) (c := 47)
      have hok : okR (a ++ 47 :: b) ↔ _ := okR_frac h
      rw [hlen] at hs
      generalize a ++ 47 :: b = s at *
      refine rule19 Tryz.hL rfl rfl rfl ?_
      (simp only [pc19, rs19, oU, oC]; refine ev ?_; try with_reducible exact trivial)
      refine loopF_of (fun E => ∃ k : Nat, k ≤ s.length ∧ E = [(5, .str s), (6, .int .i64 (if k ≤ a.length then -1 else a.length)), (7, .int .i64 k)])
        (fun E => match lk E 7 with | .int _ i => s.length - i.toNat | _ => 0) ⟨0, Nat.zero_le _, by rw [if_pos (Nat.zero_le _)]; rfl⟩ ?_
      rintro _ ⟨k, hk, rfl⟩
      (refine ev ?_; try with_reducible exact trivial)
      refine ⟨fun h1 => ⟨by omega, fun h2 => ?_, fun h2 => ?_⟩, fun h1 => ?_⟩
      · have hka : ¬k < a.length := fun hk2 => getD_ne h hk2 (by rw [← g1 k hk2]; exact h2)
        refine ⟨fun h3 => ?_, fun h3 => ?_⟩
        · have e : k = a.length := by
            rcases Nat.lt_or_ge a.length k with h4 | h4
            · rw [if_neg (by omega)] at h3; omega
            · omega
          subst e
          exact ⟨by omega, ⟨a.length + 1, by omega, by rw [if_neg (by omega)], by simp⟩, by omega⟩
        · have h4 : ¬k ≤ a.length := fun h4 => h3 (by rw [if_pos h4]; decide)
          exact ⟨by omega, ⟨k + 1, by omega, by rw [if_neg h4, if_neg (by omega)], by simp⟩, by omega⟩
      · have hka : k ≠ a.length := by rintro rfl; exact h2 (by rw [g2]; rfl)
        refine ⟨by omega, ⟨k + 1, by omega, ?_, by simp⟩, by omega⟩
        rcases Nat.lt_or_ge a.length k with h4 | h4
        · rw [if_neg (by omega), if_neg (by omega)]
        · rw [if_pos h4, if_pos (by omega)]
      · have e : k = s.length := by omega
        subst e
        rw [if_neg (by omega)]
        refine ⟨fun h => absurd h (by omega), fun _ => ?_⟩
        rw [show ((a.length : Int) + 1).toNat = a.length + 1 by omega, List.take_length, Int.toNat_natCast, e1, e2]
        refine ⟨by omega, by omega, by omega, by omega, by omega, by omega, by omega, ?_⟩
        refine callF_of (Tryz.xright a (by omega)) ?_
        (refine ev ?_; try with_reducible exact trivial)
        refine ⟨fun h2 => ?_, fun h2 => ?_⟩
        · obtain ⟨n, rfl, hn⟩ := h2
          refine callF_of (Tryz.xright b (by omega)) ?_
          (refine ev ?_; try with_reducible exact trivial)
          refine ⟨fun h3 => ?_, fun h3 => ?_⟩
          · obtain ⟨y, rfl, hy⟩ := h3
            have hcm := Tryz.xcompare y 1 (by omega) (by rw [dl_one]; decide)
            rw [(tz_one).2 rfl] at hcm
            refine callF_of hcm ?_
            (refine ev ?_; try with_reducible exact trivial)
            have hcz : 0 < cmpZ y 1 ↔ 1 < y := by unfold cmpZ; split <;> (try split) <;> omega
            rw [hcz]
            have key : okR s ↔ 1 < y ∧ Nat.gcd n.natAbs y.natAbs = 1 := by
              rw [hok]
              constructor
              · rintro ⟨n', d, e1, e2, e3, e4, e5, e6⟩
                have e7 : y = d := tz_inj (by rw [e2, dd_tz])
                rw [tz_inj e1, e7]; exact ⟨by omega, e6⟩
              · rintro ⟨e1, e2⟩
                refine ⟨n, y.natAbs, rfl, ?_, hn, hy, by omega, e2⟩
                rw [← dd_tz]; congr 1; omega
            rw [show okR s = _ from propext key]
            have hg := Tryz.xgcd n y (by omega) (by omega)
            refine ⟨fun h4 => ?_, fun h4 => ?_⟩
            · refine callF_of hg ?_
              (refine ev ?_; try with_reducible exact trivial)
              rw [tz_one, show (1 < y ∧ Nat.gcd n.natAbs y.natAbs = 1) = (((Nat.gcd n.natAbs y.natAbs : Nat) : Int) = 1) from propext ⟨fun h => by omega, fun h => ⟨h4, by omega⟩⟩]
              simp [resD, rvD, lk, D.plain, D.isPure, optAll]
            · rw [dB_f (fun h : 1 < y ∧ _ => h4 h.1)]
              simp [resD, rvD, lk, D.plain, D.isPure, optAll]
          · rw [dB_f (show ¬okR s from fun h => by
              obtain ⟨n', d, e1, e2, e3, e4, e5, e6⟩ := hok.1 h
              exact h3 ⟨d, by rw [e2, dd_tz], e4⟩)]
            simp [resD, rvD, lk, D.plain, D.isPure, optAll]
        · rw [dB_f (show ¬okR s from fun h => by
            obtain ⟨n', d, e1, e2, e3, e4, e5, e6⟩ := hok.1 h
            exact h2 ⟨n', e1, e3⟩)]
          simp [resD, rvD, lk, D.plain, D.isPure, optAll]
    · rintro q e
      have hd : q.den ≠ 1 := fun hd => by
        have := rt_noslash.2 hd 47 (by rw [← e]; simp)
        exact this rfl
      rw [rt_frac hd] at e
      obtain ⟨e1, e2⟩ := split_inj h tz_noslash e
      exact ⟨e1, by rw [e2, dd_tz]⟩

theorem Tryz.yof (q : Rat) (hq : rd q ≤ 200) : Con Tryz.prog Tryz.L 16 [.str (rt q)] (ofD q) := by
  have hn := rd_num q
  have hd := rd_den q
  have hl := rt_len q
  have hd0 : q.den ≠ 0 := q.den_nz
  have hdd : dl (q.den : Int) ≤ 200 := by rw [dl_nat]; omega
  obtain ⟨a, b, hp, he⟩ := Tryz.yparts (rt q) (by omega)
  obtain ⟨rfl, rfl⟩ := he q rfl
  rw [dB_t ((okR_rt q).2 hq)] at hp
  refine rule16 Tryz.hL (by unfold ofD; (repeat' split) <;> rfl) rfl rfl ?_
  (simp only [pc16, rs16, oU, oC]; refine ev ?_; try with_reducible exact trivial)
  refine callF_of hp ?_
  (refine ev ?_; try with_reducible exact trivial)
  refine callF_of (Tryz.xsign q.num (by omega)) ?_
  (refine ev ?_; try with_reducible exact trivial)
  rw [tz_zero]
  unfold ofD
  refine ⟨fun h1 => ?_, fun h1 => ⟨fun h2 => ?_, fun h2 => ?_⟩⟩
  · rw [if_pos (Int.sign_eq_neg_one_iff_neg.1 (by rcases Int.sign_trichotomy q.num with h | h | h <;> omega))]
    simp [resD_two, rvD, lk, D.plain, D.isPure, optAll]
  · have h3 : q = 0 := (sign_num q).2.1.1 h2
    subst h3
    simp [resD_two, rvD, lk, D.plain, D.isPure, optAll]
  have hnn : ¬q.num < 0 := fun h => by rw [Int.sign_eq_neg_one_iff_neg.2 h] at h1; exact h1 (by decide)
  rw [if_neg hnn, if_neg (fun h => h2 ((sign_num q).2.1.2 h))]
  have en : q.num = (q.num.natAbs : Int) := by omega
  have hm := Tryz.xmul q.num q.den (by omega) (by omega)
  have hml := dl_mul q.num q.den
  rw [en, ← Int.natCast_mul, ← en] at hm
  rw [en, ← Int.natCast_mul, ← en] at hml
  refine callF_of hm ?_
  (refine ev ?_; try with_reducible exact trivial)
  have hn1 := dl_nrt (q.num.natAbs * q.den)
  have hov := Tryz.ymake (nrt (q.num.natAbs * q.den)) q.den q.den_pos (by omega) (by omega)
  have hrt := Tryz.ysquare (q.num.natAbs * q.den) (by omega)
  have ho1 := Tryz.ymake 1 q.den q.den_pos (by rw [dl_one]; decide) (by omega)
  rw [(tz_one).2 rfl] at ho1
  unfold ofL
  generalize q.num.natAbs * q.den = m at *
  refine callF_of hrt ?_
  (refine ev ?_; try with_reducible exact trivial)
  refine ⟨fun h3 => ?_, fun h3 => ?_⟩
  · refine callF_of hov ?_
    (refine ev ?_; try with_reducible exact trivial)
    rw [if_neg (fun h => h.1 h3), if_pos h3]
    simp [resD_two, rvD, lk, D.plain, D.isPure, optAll, rows, tD, (tz_one (z := 1)).2 rfl]
  · rw [if_neg h3, tz_nat_len]
    refine ⟨fun h4 => ?_, fun h4 => ?_⟩
    · rw [if_pos ⟨h3, by omega⟩]
      simp [resD_two, rvD, lk, D.plain, D.isPure, optAll]
    · rw [if_neg (fun h => h4 (by omega))]
      refine callF_of ho1 ?_
      (refine ev ?_; try with_reducible exact trivial)
      simp [resD_two, rvD, lk, D.plain, D.isPure, optAll, rows, tD]
end Go.Proofs

/-
  SURD: Check of a right surd. Own work.
-/
namespace Go.Proofs
open Go Go.Pi Go.RowKit Go.Ar

theorem dB_dec (p : Prop) [Decidable p] : dB p = decide p := by
  by_cases h : p
  · rw [dB_t h, decide_eq_true h]
  · rw [dB_f h, decide_eq_false h]
def tOk (x : Tm) : Prop := x.1 ≠ 0 ∧ rd x.1 ≤ 200 ∧ 0 < x.2 ∧ dl (x.2 : Int) ≤ 200 ∧ (isq x.2 → x.2 = 1)
structure SOk (l : List Tm) : Prop where
  len : l.length ≤ 40
  ok : ∀ x ∈ l, tOk x
  sep : ∀ (i j : Nat) (x y : Tm), i < j → l[i]? = some x → l[j]? = some y → x.2 < y.2 ∧ ¬isq (x.2 * y.2)

theorem Tryz.check1 (u t : Tm) (h1 : dl (u.2 : Int) ≤ 9000) (h2 : dl (t.2 : Int) ≤ 9000) : Con Tryz.prog Tryz.L 103 ([.agg (tD u)] ++ [.pt (tD t)]) (.bool (decide (isq (u.2 * t.2)))) := by
  refine rule103 Tryz.hL rfl rfl rfl ?_
  simp only [pc103, rs103, oU, oC, tD, List.cons_append, List.nil_append, evX, evY, evZ, forall_const, implies_true, initE, stepF, D.clean, mvF, moF, tkF, shF, ariF, ciF, catF, scF, ebF, eqF, eqOk, eqPr, enF, notF, ngF, cvF, csF, csbF, lenF, lenSF, ixF, iaF, PX.slot, iaAF, faF, ldF, D.mem, stF, bxF, mkSF, boundF, fldF, mmF2, D.plain, D.isPure, optAll, D.dull, callVF, splice, D.cells, D.one, sets, resT, D.flat, D.flat0, D.simple, Nat.reduceBNe, Nat.reduceLT, reduceIte, Nat.reduceEqDiff, Nat.reduceAdd, Nat.reduceMul, Nat.reduceSub, Nat.reduceLeDiff, Int.reduceToNat, Int.reduceLT, Int.reduceLE, Int.reduceEq, Int.reduceNeg, Int.reduceSub, Int.reduceAdd, Int.reduceMul, stG_own]
  refine callF_of (Tryz.salike u.2 t.2 h1 h2) ?_
  (refine ev ?_; try with_reducible exact trivial)
  rw [dB_dec]

set_option maxHeartbeats 4000000 in
theorem Tryz.check (l : List Tm) (h : SOk l) : Con Tryz.prog Tryz.L 57 [sg l] (.int .i64 0) := by
  have hl := h.len
  refine rule57 Tryz.hL rfl rfl rfl ?_
  (simp only [pc57, rs57, oU, oC]; refine ev ?_; try with_reducible exact trivial)
  refine ⟨fun h1 => absurd h1 (by omega), fun _ => ?_⟩
  refine loopF_of (fun E => ∃ k : Nat, k ≤ l.length ∧ E = [(0, sg l), (10, sg l), (11, .int .i64 l.length), (12, .int .i64 k)])
    (fun E => match lk E 12 with | .int _ i => l.length - i.toNat | _ => 0) ⟨0, Nat.zero_le _, rfl⟩ ?_
  rintro _ ⟨k, hk, rfl⟩
  (refine ev ?_; try with_reducible exact trivial)
  intro h3
  have hx : l[k]? = some (l[k]'(by omega)) := List.getElem?_eq_getElem (by omega)
  generalize l[k]'(by omega) = x at hx
  obtain ⟨a1, a2, a3, a4, a5⟩ := h.ok x (List.mem_of_getElem? hx)
  have hlt := rt_len x.1
  refine ⟨⟨by omega, by omega, by rw [rows_length tD_len]; omega⟩, ?_⟩
  rw [tms_at hx]
  simp only [tD, evX, evY, evZ, forall_const, implies_true, initE, stepF, D.clean, mvF, moF, tkF, shF, ariF, ciF, catF, scF, ebF, eqF, eqOk, eqPr, enF, notF, ngF, cvF, csF, csbF, lenF, lenSF, ixF, iaF, PX.slot, iaAF, faF, ldF, D.mem, stF, bxF, mkSF, boundF, fldF, mmF2, D.plain, D.isPure, optAll, D.dull, callVF, splice, D.cells, D.one, sets, resT, D.flat, D.flat0, D.simple, Nat.reduceBNe, Nat.reduceLT, reduceIte, Nat.reduceEqDiff, Nat.reduceAdd, Nat.reduceMul, Nat.reduceSub, Nat.reduceLeDiff, Int.reduceToNat, Int.reduceLT, Int.reduceLE, Int.reduceEq, Int.reduceNeg, Int.reduceSub, Int.reduceAdd, Int.reduceMul, stG_own]
  refine callF_of (Tryz.rcheckQ x.1 a2) ?_
  (refine ev ?_; try with_reducible exact trivial)
  rw [rt_zero]
  refine ⟨fun h4 => absurd h4 a1, fun _ => ?_⟩
  have hic := Tryz.icheckZ (x.2 : Int) (by omega)
  rw [if_pos a4] at hic
  refine callF_of hic ?_
  (refine ev ?_; try with_reducible exact trivial)
  refine callF_of (Tryz.sign (x.2 : Int) (by rw [dd_tz]; have := dl_nat x.2; omega)) ?_
  (refine ev ?_; try with_reducible exact trivial)
  rw [Int.sign_eq_one_of_pos (show (0 : Int) < x.2 by omega)]
  refine ⟨fun h4 => absurd h4 (by decide), fun _ => ?_⟩
  have hkl : (l.take k).length = k := by rw [List.length_take]; omega
  have hct := Tryz.scontains (f := 103) (caps := [.pt (tD x)]) (fun u => decide (isq (u.2 * x.2))) (l.take k) (by omega) (fun u hu => by
    obtain ⟨i, hi, hu2⟩ := List.mem_iff_getElem.1 hu
    have hu3 : l[i]? = some u := by
      have := List.getElem?_eq_getElem hi
      rw [hu2, List.getElem?_take] at this
      rw [if_pos (by omega)] at this; exact this
    exact Tryz.check1 u x (by have := (h.ok u (List.mem_of_getElem? hu3)).2.2.2.1; omega) (by omega))
  have hany : ((l.take k).any fun u => decide (isq (u.2 * x.2))) = false := by
    rw [List.any_eq_false]
    intro u hu
    obtain ⟨i, hi, hu2⟩ := List.mem_iff_getElem.1 hu
    have hu3 : l[i]? = some u := by
      have := List.getElem?_eq_getElem hi
      rw [hu2, List.getElem?_take] at this
      rw [if_pos (by omega)] at this; exact this
    have := (h.sep i k u x (by omega) hu3 hx).2
    simpa using this
  rw [hany, hkl, show tms (l.take k) = Go.Pi.cut 2 0 k (tms l) by rw [cut_rows tD_len, List.drop_zero]] at hct
  simp only [tD] at hct
  have hrl := rows_length tD_len l
  refine callF_of (Tryz.sroot x.2 (by omega)) ?_
  (refine ev ?_; try with_reducible exact trivial)
  rw [tz_one]
  refine ⟨fun b1 => ⟨fun b2 => absurd (by have := a5 b1; omega) b2, fun b2 => ?_⟩, fun b1 => ?_⟩
  all_goals
    refine ⟨fun h4 => ?_, fun h4 => ?_⟩
    · have hy : l[k - 1]? = some (l[k - 1]'(by omega)) := List.getElem?_eq_getElem (by omega)
      generalize l[k - 1]'(by omega) = y at hy
      have hyo := (h.ok y (List.mem_of_getElem? hy)).2.2.2.1
      have hlt := (h.sep (k - 1) k y x (by omega) hy hx).1
      refine ⟨by omega, ⟨by omega, by omega, by rw [hrl]; omega⟩, ?_⟩
      rw [show ((k : Int) - 1).toNat = k - 1 by omega, tms_at hy]
      simp only [tD, evX, evY, evZ, forall_const, implies_true, initE, stepF, D.clean, mvF, moF, tkF, shF, ariF, ciF, catF, scF, ebF, eqF, eqOk, eqPr, enF, notF, ngF, cvF, csF, csbF, lenF, lenSF, ixF, iaF, PX.slot, iaAF, faF, ldF, D.mem, stF, bxF, mkSF, boundF, fldF, mmF2, D.plain, D.isPure, optAll, D.dull, callVF, splice, D.cells, D.one, sets, resT, D.flat, D.flat0, D.simple, Nat.reduceBNe, Nat.reduceLT, reduceIte, Nat.reduceEqDiff, Nat.reduceAdd, Nat.reduceMul, Nat.reduceSub, Nat.reduceLeDiff, Int.reduceToNat, Int.reduceLT, Int.reduceLE, Int.reduceEq, Int.reduceNeg, Int.reduceSub, Int.reduceAdd, Int.reduceMul, stG_own]
      refine callF_of (Tryz.compare (y.2 : Int) (x.2 : Int) (by omega) (by omega)) ?_
      (refine ev ?_; try with_reducible exact trivial)
      rw [cmpZ_lt (by omega)]
      refine ⟨fun h5 => absurd h5 (by decide), fun _ => ⟨by omega, by omega, by omega, hrl.symm, ?_⟩⟩
      refine callF_of hct ?_
      (refine ev ?_; try with_reducible exact trivial)
      exact ⟨by omega, ⟨k + 1, by omega, by simp⟩, by omega⟩
    · refine ⟨by omega, by omega, by omega, hrl.symm, ?_⟩
      refine callF_of hct ?_
      (refine ev ?_; try with_reducible exact trivial)
      exact ⟨by omega, ⟨k + 1, by omega, by simp⟩, by omega⟩
end Go.Proofs

/-
  SURD: enclose. Own work.
-/
namespace Go.Proofs
open Go Go.Pi Go.RowKit Go.Ar

/-- the common denominator -/
def denF (d : Nat) (x : Tm) : Nat := d * (x.1.den / Nat.gcd d x.1.den)
def denL (l : List Tm) : Nat := l.foldl denF 1
/-- both bounds of a sum -/
def upR (n : Nat) : Nat := if isq n then nrt n else nrt n + 1
def encF (d s : Nat) (p : Int × Int) (x : Tm) : Int × Int :=
  if ((d / x.1.den : Nat) : Int) * x.1.num < 0 then (p.1 + ((d / x.1.den : Nat) : Int) * x.1.num * (upR (x.2 * s) : Nat), p.2 + ((d / x.1.den : Nat) : Int) * x.1.num * (nrt (x.2 * s) : Nat))
  else (p.1 + ((d / x.1.den : Nat) : Int) * x.1.num * (nrt (x.2 * s) : Nat), p.2 + ((d / x.1.den : Nat) : Int) * x.1.num * (upR (x.2 * s) : Nat))
def encL (l : List Tm) (bits : Nat) : Int × Int := l.foldl (encF (denL l) (4 ^ bits)) (0, 0)
theorem dl_natle {m n : Nat} (h : m ≤ n) : dl (m : Int) ≤ dl (n : Int) := dd_len_mono h
theorem four_tz : tz 4 = [52] := by rw [show (4 : Int) = ((4 : Nat) : Int) from rfl, tz_nat, if_neg (by omega)]; exact dd_small (by decide)
theorem dl_four : dl 4 = 1 := by unfold dl; rw [show (4 : Int).natAbs = 4 from rfl, show dd 4 = [52] from dd_small (by decide)]; rfl
theorem dl_zero : dl 0 = 1 := by unfold dl; rw [show (0 : Int).natAbs = 0 from rfl, dd_zero]; rfl
theorem foldl_take {α β : Type} {f : β → α → β} {b : β} {l : List α} {k : Nat} {x : α} (h : l[k]? = some x) : (l.take (k + 1)).foldl f b = f ((l.take k).foldl f b) x := by
  rw [List.take_add_one, h, List.foldl_append]; rfl
theorem denF_pos {d : Nat} {x : Tm} (h : 0 < d) : 0 < denF d x :=
  Nat.mul_pos h (Nat.div_pos (Nat.gcd_le_right _ x.1.den_pos) (Nat.gcd_pos_of_pos_left _ h))
theorem denL_pos : ∀ {l : List Tm} {d : Nat}, 0 < d → 0 < l.foldl denF d
  | [], _, h => h
  | x :: l, d, h => denL_pos (l := l) (denF_pos h)

set_option maxHeartbeats 8000000 in
theorem Tryz.enclose (l : List Tm) (hl : l.length ≤ 40) (h : ∀ x ∈ l, rd x.1 ≤ 200 ∧ dl (x.2 : Int) ≤ 200) (bits : Nat) (hb : bits ≤ 4096) :
    Con Tryz.prog Tryz.L 106 [sg l, .int .i64 bits] (.tup [.str (tz (encL l bits).1), .str (tz (encL l bits).2), .str (tz (denL l : Int))]) := by
  have hrl : (tms l).length = l.length * 2 := rows_length tD_len l
  refine rule106 Tryz.hL rfl rfl rfl ?_
  (simp only [pc106, rs106, oU, oC]; refine ev ?_; try with_reducible exact trivial)
  refine loopF_of (fun E => ∃ k : Nat, k ≤ l.length ∧ dl (((l.take k).foldl denF 1 : Nat) : Int) ≤ 1 + 200 * k ∧ E = [(0, sg l), (1, .int .i64 bits), (6, .str (tz (((l.take k).foldl denF 1 : Nat) : Int))), (24, sg l), (25, .int .i64 l.length), (26, .int .i64 k)])
    (fun E => match lk E 26 with | .int _ i => l.length - i.toNat | _ => 0) ⟨0, Nat.zero_le _, by rw [List.take_zero, List.foldl_nil]; have : dl ((1 : Nat) : Int) = 1 := dl_one; omega, by rw [List.take_zero, List.foldl_nil, (tz_one (z := ((1 : Nat) : Int))).2 rfl]; rfl⟩ ?_
  rintro _ ⟨k, hk, hd, rfl⟩
  (refine ev ?_; try with_reducible exact trivial)
  refine ⟨fun h3 => ?_, fun h3 => ?_⟩
  · have hx : l[k]? = some (l[k]'(by omega)) := List.getElem?_eq_getElem (by omega)
    generalize l[k]'(by omega) = x at hx
    obtain ⟨x1, x2⟩ := h x (List.mem_of_getElem? hx)
    have xd := rd_den x.1
    have xn := rd_num x.1
    have hp := denL_pos (l := l.take k) (d := 1) (by decide)
    have hf := foldl_take (f := denF) (b := 1) hx
    generalize (l.take k).foldl denF 1 = d at *
    refine ⟨⟨by omega, by omega, by omega⟩, ?_⟩
    rw [tms_at hx]
    simp only [tD, evX, evY, evZ, forall_const, implies_true, initE, stepF, D.clean, mvF, moF, tkF, shF, ariF, ciF, catF, scF, ebF, eqF, eqOk, eqPr, enF, notF, ngF, cvF, csF, csbF, lenF, lenSF, ixF, iaF, PX.slot, iaAF, faF, ldF, D.mem, stF, bxF, mkSF, boundF, fldF, mmF2, D.plain, D.isPure, optAll, D.dull, callVF, splice, D.cells, D.one, sets, resT, D.flat, D.flat0, D.simple, Nat.reduceBNe, Nat.reduceLT, reduceIte, Nat.reduceEqDiff, Nat.reduceAdd, Nat.reduceMul, Nat.reduceSub, Nat.reduceLeDiff, Int.reduceToNat, Int.reduceLT, Int.reduceLE, Int.reduceEq, Int.reduceNeg, Int.reduceSub, Int.reduceAdd, Int.reduceMul, stG_own]
    refine callF_of (Tryz.rparts x.1 (by omega)) ?_
    (refine ev ?_; try with_reducible exact trivial)
    refine callF_of (Tryz.gcd d x.1.den (by omega) (by rw [dl_nat]; omega)) ?_
    (refine ev ?_; try with_reducible exact trivial)
    rw [Int.natAbs_natCast, Int.natAbs_natCast]
    have hgp : 0 < Nat.gcd d x.1.den := Nat.gcd_pos_of_pos_left _ hp
    have hgl : dl ((Nat.gcd d x.1.den : Nat) : Int) ≤ 200 := Nat.le_trans (dl_natle (Nat.gcd_le_right d x.1.den_pos)) (by rw [dl_nat x.1.den]; omega)
    refine callF_of (Tryz.divMod x.1.den (Nat.gcd d x.1.den : Nat) (by rw [dl_nat]; omega) (by omega) (by omega)) ?_
    (refine ev ?_; try with_reducible exact trivial)
    have eq : (x.1.den : Int) / ((Nat.gcd d x.1.den : Nat) : Int) = ((x.1.den / Nat.gcd d x.1.den : Nat) : Int) := rfl
    rw [eq]
    have hql : dl ((x.1.den / Nat.gcd d x.1.den : Nat) : Int) ≤ 200 := Nat.le_trans (dl_natle (Nat.div_le_self x.1.den (Nat.gcd d x.1.den))) (by rw [dl_nat x.1.den]; omega)
    refine callF_of (Tryz.mul d (x.1.den / Nat.gcd d x.1.den : Nat) (by omega) (by omega)) ?_
    (refine ev ?_; try with_reducible exact trivial)
    have hml := dl_mul d ((x.1.den / Nat.gcd d x.1.den : Nat) : Int)
    rw [← Int.natCast_mul] at hml ⊢
    refine ⟨by omega, ⟨k + 1, by omega, ?_, ?_⟩, by omega⟩
    · rw [hf]; unfold denF; omega
    · rw [hf]; unfold denF; simp
  · have e : k = l.length := by omega
    subst e
    rw [List.take_length] at hd ⊢
    have hp := denL_pos (l := l) (d := 1) (by decide)
    have p4 := Tryz.power 4 bits (by rw [dl_four]; decide) (by rw [dl_four]; omega)
    rw [four_tz] at p4
    have hS := dl_pow 4 bits
    rw [dl_four] at hS
    have e4 : (4 : Int) ^ bits = ((4 ^ bits : Nat) : Int) := by rw [Int.natCast_pow]; rfl
    rw [e4] at p4 hS
    show callF _ _ _ _ _ _ _
    have henc : encL l bits = l.foldl (encF (denL l) (4 ^ bits)) (0, 0) := rfl
    have hdl : l.foldl denF 1 = denL l := rfl
    rw [henc]
    rw [hdl] at hp hd ⊢
    generalize denL l = d at *
    generalize 4 ^ bits = S at *
    refine callF_of p4 ?_
    (refine ev ?_; try with_reducible exact trivial)
    refine loopF_of (fun E => ∃ k : Nat, k ≤ l.length ∧ dl ((l.take k).foldl (encF d S) (0, 0)).1 ≤ 13000 + k ∧ dl ((l.take k).foldl (encF d S) (0, 0)).2 ≤ 13000 + k ∧
        E = [(4, .str (tz ((l.take k).foldl (encF d S) (0, 0)).1)), (5, .str (tz ((l.take k).foldl (encF d S) (0, 0)).2)), (6, .str (tz (d : Int))), (12, .str (tz (S : Int))), (55, sg l), (56, .int .i64 l.length), (57, .int .i64 k)])
      (fun E => match lk E 57 with | .int _ i => l.length - i.toNat | _ => 0) ⟨0, Nat.zero_le _, by rw [List.take_zero, List.foldl_nil, dl_zero]; omega, by rw [List.take_zero, List.foldl_nil, dl_zero]; omega, by rw [List.take_zero, List.foldl_nil, zero_tz]; rfl⟩ ?_
    rintro _ ⟨k, hk, h1, h2, rfl⟩
    (refine ev ?_; try with_reducible exact trivial)
    refine ⟨fun h3 => ?_, fun h3 => ?_⟩
    · have hx : l[k]? = some (l[k]'(by omega)) := List.getElem?_eq_getElem (by omega)
      generalize l[k]'(by omega) = x at hx
      obtain ⟨x1, x2⟩ := h x (List.mem_of_getElem? hx)
      have xd := rd_den x.1
      have xn := rd_num x.1
      have hf := foldl_take (f := encF d S) (b := (0, 0)) hx
      generalize (l.take k).foldl (encF d S) (0, 0) = p at *
      refine ⟨⟨by omega, by omega, by omega⟩, ?_⟩
      rw [tms_at hx]
      simp only [tD, evX, evY, evZ, forall_const, implies_true, initE, stepF, D.clean, mvF, moF, tkF, shF, ariF, ciF, catF, scF, ebF, eqF, eqOk, eqPr, enF, notF, ngF, cvF, csF, csbF, lenF, lenSF, ixF, iaF, PX.slot, iaAF, faF, ldF, D.mem, stF, bxF, mkSF, boundF, fldF, mmF2, D.plain, D.isPure, optAll, D.dull, callVF, splice, D.cells, D.one, sets, resT, D.flat, D.flat0, D.simple, Nat.reduceBNe, Nat.reduceLT, reduceIte, Nat.reduceEqDiff, Nat.reduceAdd, Nat.reduceMul, Nat.reduceSub, Nat.reduceLeDiff, Int.reduceToNat, Int.reduceLT, Int.reduceLE, Int.reduceEq, Int.reduceNeg, Int.reduceSub, Int.reduceAdd, Int.reduceMul, stG_own]
      refine callF_of (Tryz.rparts x.1 (by omega)) ?_
      (refine ev ?_; try with_reducible exact trivial)
      have hd0 := x.1.den_pos
      refine callF_of (Tryz.divMod d x.1.den (by omega) (by rw [dl_nat]; omega) (by omega)) ?_
      (refine ev ?_; try with_reducible exact trivial)
      rw [show (d : Int) / (x.1.den : Int) = ((d / x.1.den : Nat) : Int) from rfl]
      have hq := Nat.le_trans (dl_natle (Nat.div_le_self d x.1.den)) hd
      have hKl := dl_mul ((d / x.1.den : Nat) : Int) x.1.num
      have hml := dl_mul (x.2 : Int) (S : Int)
      have hm1 := Tryz.mul (x.2 : Int) S (by omega) (by omega)
      rw [← Int.natCast_mul] at hml hm1
      have hal := dl_nrt (x.2 * S)
      have hsq := Tryz.sroot (x.2 * S) (by omega)
      have hup := Tryz.add (nrt (x.2 * S)) 1 (by omega) (by rw [dl_one]; omega)
      rw [one_tz] at hup
      have hal1 := dl_add (x := (nrt (x.2 * S) : Int)) (y := 1) (k := 4300) (by omega) (by rw [dl_one]; omega)
      have hbl : dl (upR (x.2 * S) : Int) ≤ 4301 := by
        unfold upR; split
        · omega
        · rw [Int.natCast_add]; exact hal1
      have ub1 : isq (x.2 * S) → upR (x.2 * S) = nrt (x.2 * S) := fun h => if_pos h
      have ub2 : ¬isq (x.2 * S) → ((nrt (x.2 * S) : Nat) : Int) + 1 = (upR (x.2 * S) : Nat) := fun h => by unfold upR; rw [if_neg h, Int.natCast_add]; rfl
      have hE : encF d S p x = (if ((d / x.1.den : Nat) : Int) * x.1.num < 0 then (p.1 + ((d / x.1.den : Nat) : Int) * x.1.num * (upR (x.2 * S) : Nat), p.2 + ((d / x.1.den : Nat) : Int) * x.1.num * (nrt (x.2 * S) : Nat))
          else (p.1 + ((d / x.1.den : Nat) : Int) * x.1.num * (nrt (x.2 * S) : Nat), p.2 + ((d / x.1.den : Nat) : Int) * x.1.num * (upR (x.2 * S) : Nat))) := rfl
      rw [hE] at hf
      refine callF_of (Tryz.mul ((d / x.1.den : Nat) : Int) x.1.num (by omega) (by omega)) ?_
      generalize ((d / x.1.den : Nat) : Int) * x.1.num = K at *
      generalize upR (x.2 * S) = B at *
      generalize nrt (x.2 * S) = A at *
      have hsg := Tryz.sign K (by have := tz_dl K; omega)
      have hKA := Tryz.mul K A (by omega) (by omega)
      have hKB := Tryz.mul K B (by omega) (by omega)
      have lKA := dl_mul K A
      have lKB := dl_mul K B
      have s1A := Tryz.add p.1 (K * A) (by omega) (by omega)
      have s1B := Tryz.add p.1 (K * B) (by omega) (by omega)
      have s2A := Tryz.add p.2 (K * A) (by omega) (by omega)
      have s2B := Tryz.add p.2 (K * B) (by omega) (by omega)
      have l1A := dl_add (x := p.1) (y := K * A) (k := 13000 + k) (by omega) (by omega)
      have l1B := dl_add (x := p.1) (y := K * B) (k := 13000 + k) (by omega) (by omega)
      have l2A := dl_add (x := p.2) (y := K * A) (k := 13000 + k) (by omega) (by omega)
      have l2B := dl_add (x := p.2) (y := K * B) (k := 13000 + k) (by omega) (by omega)
      have hsn : K.sign < 0 ↔ K < 0 := ⟨fun h => Int.sign_eq_neg_one_iff_neg.1 (by rcases Int.sign_trichotomy K with h | h | h <;> omega), fun h => by rw [Int.sign_eq_neg_one_iff_neg.2 h]; decide⟩
      (refine ev ?_; try with_reducible exact trivial)
      refine callF_of hm1 ?_
      (refine ev ?_; try with_reducible exact trivial)
      refine callF_of hsq ?_
      (refine ev ?_; try with_reducible exact trivial)
      refine ⟨fun b1 => ?_, fun b1 => ?_⟩
      · refine callF_of hup ?_
        (refine ev ?_; try with_reducible exact trivial)
        rw [ub2 b1]
        refine callF_of hsg ?_
        (refine ev ?_; try with_reducible exact trivial)
        refine ⟨fun b2 => ?_, fun b2 => ?_⟩
        · rw [if_pos (hsn.1 b2)] at hf
          refine callF_of hKB ?_
          (refine ev ?_; try with_reducible exact trivial)
          refine callF_of s1B ?_
          (refine ev ?_; try with_reducible exact trivial)
          refine callF_of hKA ?_
          (refine ev ?_; try with_reducible exact trivial)
          refine callF_of s2A ?_
          (refine ev ?_; try with_reducible exact trivial)
          exact ⟨by omega, ⟨k + 1, by omega, by rw [hf]; show dl _ ≤ _; omega, by rw [hf]; show dl _ ≤ _; omega, by rw [hf]; simp⟩, by omega⟩
        · rw [if_neg (fun h => b2 (hsn.2 h))] at hf
          refine callF_of hKA ?_
          (refine ev ?_; try with_reducible exact trivial)
          refine callF_of s1A ?_
          (refine ev ?_; try with_reducible exact trivial)
          refine callF_of hKB ?_
          (refine ev ?_; try with_reducible exact trivial)
          refine callF_of s2B ?_
          (refine ev ?_; try with_reducible exact trivial)
          exact ⟨by omega, ⟨k + 1, by omega, by rw [hf]; show dl _ ≤ _; omega, by rw [hf]; show dl _ ≤ _; omega, by rw [hf]; simp⟩, by omega⟩
      · have b1 := Classical.not_not.1 b1
        have eB := ub1 b1
        subst eB
        refine callF_of hsg ?_
        (refine ev ?_; try with_reducible exact trivial)
        refine ⟨fun b2 => ?_, fun b2 => ?_⟩
        · rw [if_pos (hsn.1 b2)] at hf
          refine callF_of hKA ?_
          (refine ev ?_; try with_reducible exact trivial)
          refine callF_of s1A ?_
          (refine ev ?_; try with_reducible exact trivial)
          refine callF_of hKA ?_
          (refine ev ?_; try with_reducible exact trivial)
          refine callF_of s2A ?_
          (refine ev ?_; try with_reducible exact trivial)
          exact ⟨by omega, ⟨k + 1, by omega, by rw [hf]; show dl _ ≤ _; omega, by rw [hf]; show dl _ ≤ _; omega, by rw [hf]; simp⟩, by omega⟩
        · rw [if_neg (fun h => b2 (hsn.2 h))] at hf
          refine callF_of hKA ?_
          (refine ev ?_; try with_reducible exact trivial)
          refine callF_of s1A ?_
          (refine ev ?_; try with_reducible exact trivial)
          refine callF_of hKA ?_
          (refine ev ?_; try with_reducible exact trivial)
          refine callF_of s2A ?_
          (refine ev ?_; try with_reducible exact trivial)
          exact ⟨by omega, ⟨k + 1, by omega, by rw [hf]; show dl _ ≤ _; omega, by rw [hf]; show dl _ ≤ _; omega, by rw [hf]; simp⟩, by omega⟩
    · have e : k = l.length := by omega
      subst e
      rw [List.take_length]
      simp [resD, rvD, lk, D.plain, D.isPure, optAll]
end Go.Proofs

/-
  SURD: sign, Sign, Rational, floor, Bounds. Own work.
-/
namespace Go.Proofs
open Go Go.Pi Go.RowKit Go.Ar

theorem denF_dl {d : Nat} {x : Tm} (h : rd x.1 ≤ 200) : dl (denF d x : Int) ≤ dl (d : Int) + 200 := by
  have hd := rd_den x.1
  have h1 := dl_mul d ((x.1.den / Nat.gcd d x.1.den : Nat) : Int)
  have h2 : dl ((x.1.den / Nat.gcd d x.1.den : Nat) : Int) ≤ 200 := Nat.le_trans (dl_natle (Nat.div_le_self x.1.den _)) (by rw [dl_nat x.1.den]; omega)
  unfold denF
  rw [Int.natCast_mul]; omega
theorem denA_dl : ∀ {l : List Tm} {d : Nat}, (∀ x ∈ l, rd x.1 ≤ 200) → dl ((l.foldl denF d : Nat) : Int) ≤ dl (d : Int) + 200 * l.length
  | [], d, _ => by simp
  | x :: l, d, h => by
    have h1 := denA_dl (l := l) (d := denF d x) (fun y hy => h y (List.mem_cons_of_mem _ hy))
    have h2 := denF_dl (d := d) (x := x) (h x (List.mem_cons_self ..))
    rw [List.foldl_cons, List.length_cons]; omega
theorem denL_dl {l : List Tm} (hl : l.length ≤ 40) (h : ∀ x ∈ l, rd x.1 ≤ 200) : dl (denL l : Int) ≤ 8001 := by
  have h1 := denA_dl (l := l) (d := 1) h
  have : dl ((1 : Nat) : Int) = 1 := dl_one
  unfold denL; omega
theorem upR_dl {m k : Nat} (h : dl (m : Int) ≤ k) : dl (upR m : Int) ≤ k + 1 := by
  have h1 := dl_nrt m
  have h2 := dl_pos (m : Int)
  unfold upR
  split
  · omega
  · rw [Int.natCast_add]
    exact dl_add (by omega) (by show dl 1 ≤ k; rw [dl_one]; omega)
theorem encF_dl {d s n : Nat} {p : Int × Int} {x : Tm} (hd : dl (d : Int) ≤ 8001) (hs : dl (s : Int) ≤ 4097) (h1 : rd x.1 ≤ 200) (h2 : dl (x.2 : Int) ≤ 200) (hn : 13000 ≤ n) (p1 : dl p.1 ≤ n) (p2 : dl p.2 ≤ n) :
    dl (encF d s p x).1 ≤ n + 1 ∧ dl (encF d s p x).2 ≤ n + 1 := by
  have hm := dl_mul (x.2 : Int) s
  rw [← Int.natCast_mul] at hm
  have ha := dl_nrt (x.2 * s)
  have hb := upR_dl (m := x.2 * s) (k := 4297) (by omega)
  have hq := Nat.le_trans (dl_natle (Nat.div_le_self d x.1.den)) hd
  have hk := dl_mul ((d / x.1.den : Nat) : Int) x.1.num
  have hn2 := rd_num x.1
  unfold encF
  generalize ((d / x.1.den : Nat) : Int) * x.1.num = K at *
  have ka := dl_mul K (nrt (x.2 * s) : Nat)
  have kb := dl_mul K (upR (x.2 * s) : Nat)
  split
  · exact ⟨dl_add (by omega) (by omega), dl_add (by omega) (by omega)⟩
  · exact ⟨dl_add (by omega) (by omega), dl_add (by omega) (by omega)⟩
theorem encA_dl {d s : Nat} (hd : dl (d : Int) ≤ 8001) (hs : dl (s : Int) ≤ 4097) : ∀ {l : List Tm} {n : Nat} {p : Int × Int}, (∀ x ∈ l, rd x.1 ≤ 200 ∧ dl (x.2 : Int) ≤ 200) → 13000 ≤ n → dl p.1 ≤ n → dl p.2 ≤ n →
    dl (l.foldl (encF d s) p).1 ≤ n + l.length ∧ dl (l.foldl (encF d s) p).2 ≤ n + l.length
  | [], n, p, _, _, a, b => ⟨by simpa using a, by simpa using b⟩
  | x :: l, n, p, h, hn, a, b => by
    obtain ⟨a1, b1⟩ := encF_dl (d := d) (s := s) hd hs (h x (List.mem_cons_self ..)).1 (h x (List.mem_cons_self ..)).2 hn a b
    have := encA_dl hd hs (l := l) (n := n + 1) (p := encF d s p x) (fun y hy => h y (List.mem_cons_of_mem _ hy)) (by omega) a1 b1
    rw [List.foldl_cons, List.length_cons]; omega
theorem four_dl {bits : Nat} (hb : bits ≤ 4096) : dl ((4 ^ bits : Nat) : Int) ≤ 4097 := by
  have := dl_pow 4 bits
  rw [dl_four] at this
  rw [Int.natCast_pow]
  show dl (4 ^ bits) ≤ 4097
  omega
theorem encL_dl {l : List Tm} (hl : l.length ≤ 40) (h : ∀ x ∈ l, rd x.1 ≤ 200 ∧ dl (x.2 : Int) ≤ 200) {bits : Nat} (hb : bits ≤ 4096) : dl (encL l bits).1 ≤ 13040 ∧ dl (encL l bits).2 ≤ 13040 := by
  have := encA_dl (denL_dl hl (fun x hx => (h x hx).1)) (four_dl hb) (l := l) (n := 13000) (p := (0, 0)) h (Nat.le_refl _) (by show dl 0 ≤ _; rw [dl_zero]; omega) (by show dl 0 ≤ _; rw [dl_zero]; omega)
  unfold encL; omega

theorem Tryz.ssign (l : List Tm) (h : SOk l) (hne : l ≠ []) (K : Nat) (hK : 16 * 2 ^ K ≤ 4096) (hno : ∀ j, j < K → ¬0 < (encL l (16 * 2 ^ j)).1 ∧ ¬(encL l (16 * 2 ^ j)).2 < 0) (r : Int)
    (hr : 0 < (encL l (16 * 2 ^ K)).1 ∧ r = 1 ∨ ¬0 < (encL l (16 * 2 ^ K)).1 ∧ (encL l (16 * 2 ^ K)).2 < 0 ∧ r = -1) : Con Tryz.prog Tryz.L 77 [sg l] (.int .i64 r) := by
  have hl := h.len
  have h' : ∀ x ∈ l, rd x.1 ≤ 200 ∧ dl (x.2 : Int) ≤ 200 := fun x hx => ⟨(h.ok x hx).2.1, (h.ok x hx).2.2.2.1⟩
  have hlen : 0 < l.length := List.length_pos_iff.2 hne
  refine rule77 Tryz.hL rfl rfl rfl ?_
  (simp only [pc77, rs77, oU, oC]; refine ev ?_; try with_reducible exact trivial)
  refine ⟨fun h1 => absurd h1 (by omega), fun _ => ?_⟩
  refine loopF_of (fun E => ∃ j : Nat, j ≤ K ∧ E = [(0, sg l), (3, .int .i64 ((16 * 2 ^ j : Nat) : Int))])
    (fun E => match lk E 3 with | .int _ i => 16 * 2 ^ K - i.toNat | _ => 0) ⟨0, Nat.zero_le _, rfl⟩ ?_
  rintro _ ⟨j, hj, rfl⟩
  have hjk : 2 ^ j ≤ 2 ^ K := Nat.pow_le_pow_right (by decide) hj
  have hj1 : j < K → 2 ^ j * 2 ≤ 2 ^ K := fun h => by rw [← Nat.pow_succ]; exact Nat.pow_le_pow_right (by decide) h
  have hj0 : 0 < 2 ^ j := Nat.pow_pos (by decide)
  have hb : 16 * 2 ^ j ≤ 4096 := by omega
  obtain ⟨b1, b2⟩ := encL_dl hl h' hb
  have t1 := tz_dl (encL l (16 * 2 ^ j)).1
  have t2 := tz_dl (encL l (16 * 2 ^ j)).2
  have henc := Tryz.enclose l hl h' (16 * 2 ^ j) hb
  have hno := hno j
  have hr2 : j = K → _ := fun e => (by rw [← e] at hr; exact hr : 0 < (encL l (16 * 2 ^ j)).1 ∧ r = 1 ∨ ¬0 < (encL l (16 * 2 ^ j)).1 ∧ (encL l (16 * 2 ^ j)).2 < 0 ∧ r = -1)
  have e1 := Tryz.sign (encL l (16 * 2 ^ j)).1 (by omega)
  have e2 := Tryz.sign (encL l (16 * 2 ^ j)).2 (by omega)
  have hp : 16 * 2 ^ (j + 1) = 16 * 2 ^ j * 2 := by rw [Nat.pow_succ, ← Nat.mul_assoc]
  generalize encL l (16 * 2 ^ j) = p at *
  have s1 : 0 < p.1.sign ↔ 0 < p.1 := ⟨fun h => Int.sign_eq_one_iff_pos.1 (by rcases Int.sign_trichotomy p.1 with h | h | h <;> omega), fun h => by rw [Int.sign_eq_one_of_pos h]; decide⟩
  have s2 : p.2.sign < 0 ↔ p.2 < 0 := ⟨fun h => Int.sign_eq_neg_one_iff_neg.1 (by rcases Int.sign_trichotomy p.2 with h | h | h <;> omega), fun h => by rw [Int.sign_eq_neg_one_iff_neg.2 h]; decide⟩
  (refine ev ?_; try with_reducible exact trivial)
  refine callF_of henc ?_
  (refine ev ?_; try with_reducible exact trivial)
  refine callF_of e1 ?_
  (refine ev ?_; try with_reducible exact trivial)
  rw [s1]
  refine ⟨fun h1 => ?_, fun h1 => ?_⟩
  · have hjK : j = K := by
      rcases Nat.lt_or_ge j K with h2 | h2
      · exact absurd h1 (hno h2).1
      · omega
    rcases hr2 hjK with h2 | h2
    · rw [h2.2]
    · exact absurd h1 h2.1
  · refine callF_of e2 ?_
    (refine ev ?_; try with_reducible exact trivial)
    rw [s2]
    refine ⟨fun h3 => ?_, fun h3 => ?_⟩
    · have hjK : j = K := by
        rcases Nat.lt_or_ge j K with h2 | h2
        · exact absurd h3 (hno h2).2
        · omega
      rcases hr2 hjK with h2 | h2
      · exact absurd h2.1 h1
      · rw [h2.2.2]
    · have hjK : j < K := by
        rcases Nat.lt_or_ge j K with h2 | h2
        · exact h2
        · rcases hr2 (by omega) with h4 | h4
          · exact absurd h4.1 h1
          · exact absurd h4.2.1 h3
      have := hj1 hjK
      exact ⟨by omega, ⟨j + 1, hjK, by rw [hp, Int.natCast_mul]; rfl⟩, by omega⟩
theorem Tryz.ssignE (l : List Tm) (h : SOk l) (r : Int) (hs : Con Tryz.prog Tryz.L 77 [sg l] (.int .i64 r)) : Con Tryz.prog Tryz.L 32 [sg l] (.tup [.int .i64 r, .int .i64 0]) := by
  refine rule32 Tryz.hL rfl rfl rfl ?_
  (simp only [pc32, rs32, oU, oC]; refine ev ?_; try with_reducible exact trivial)
  refine callF_of (Tryz.check l h) ?_
  (refine ev ?_; try with_reducible exact trivial)
  refine callF_of hs ?_
  (refine ev ?_; try with_reducible exact trivial)
  simp [resD_two, rvD, lk, D.plain, D.isPure, optAll]
theorem Tryz.rationalN (l : List Tm) (h : SOk l) (hn : l.length = 1 → ∀ x ∈ l, x.2 ≠ 1) (h0 : l ≠ []) : Con Tryz.prog Tryz.L 21 [sg l] (.tup [.str [], .bool false, .int .i64 0]) := by
  have hrl : (tms l).length = l.length * 2 := rows_length tD_len l
  have hlen : 0 < l.length := List.length_pos_iff.2 h0
  refine rule21 Tryz.hL rfl rfl rfl ?_
  (simp only [pc21, rs21, oU, oC]; refine ev ?_; try with_reducible exact trivial)
  refine callF_of (Tryz.check l h) ?_
  (refine ev ?_; try with_reducible exact trivial)
  refine ⟨fun h1 => absurd h1 (by omega), fun _ => ⟨fun h1 => ?_, fun h1 => ?_⟩⟩
  · match l, h1, hn with
    | [x], _, hn =>
      have hx := hn rfl x (List.mem_singleton_self x)
      refine ⟨⟨by simp, by simp [rows, tD]⟩, ?_⟩
      simp only [tms, rows, List.flatMap_cons, List.flatMap_nil, List.append_nil, tD, List.take, List.drop, evX, evY, evZ, forall_const, implies_true, initE, stepF, D.clean, mvF, moF, tkF, shF, ariF, ciF, catF, scF, ebF, eqF, eqOk, eqPr, enF, notF, ngF, cvF, csF, csbF, lenF, lenSF, ixF, iaF, PX.slot, iaAF, faF, ldF, D.mem, stF, bxF, mkSF, boundF, fldF, mmF2, D.plain, D.isPure, optAll, D.dull, callVF, splice, D.cells, D.one, sets, resT, D.flat, D.flat0, D.simple, Nat.reduceBNe, Nat.reduceLT, reduceIte, Nat.reduceEqDiff, Nat.reduceAdd, Nat.reduceMul, Nat.reduceSub, Nat.reduceLeDiff, Int.reduceToNat, Int.reduceLT, Int.reduceLE, Int.reduceEq, Int.reduceNeg, Int.reduceSub, Int.reduceAdd, Int.reduceMul, stG_own]
      rw [tz_one]
      refine ⟨fun h2 => absurd (by omega) hx, fun _ => ?_⟩
      simp [resD, rvD, lk, D.plain, D.isPure, optAll]
  · simp [resD, rvD, lk, D.plain, D.isPure, optAll]
end Go.Proofs

/-
  SURD: floor, Bounds. Own work.
-/
namespace Go.Proofs
open Go Go.Pi Go.RowKit Go.Ar

theorem two_tz : tz 2 = [50] := by rw [show (2 : Int) = ((2 : Nat) : Int) from rfl, tz_nat, if_neg (by omega)]; exact dd_small (by decide)
theorem dl_two : dl 2 = 1 := by unfold dl; rw [show (2 : Int).natAbs = 2 from rfl, show dd 2 = [50] from dd_small (by decide)]; rfl
/-- both whole parts at some bits -/
def flL (l : List Tm) (by' bits : Nat) : Int × Int := ((encL l bits).1 * by' / ((denL l * 2 ^ bits : Nat) : Int), (encL l bits).2 * by' / ((denL l * 2 ^ bits : Nat) : Int))
theorem Tryz.floorN (l : List Tm) (hl : l.length ≤ 40) (h : ∀ x ∈ l, rd x.1 ≤ 200 ∧ dl (x.2 : Int) ≤ 200) (by' : Nat) (hby : dl (by' : Int) ≤ 200) (K : Nat) (hK : 16 * 2 ^ K ≤ 4096)
    (hno : ∀ j, j < K → (flL l by' (16 * 2 ^ j)).1 ≠ (flL l by' (16 * 2 ^ j)).2) (hyes : (flL l by' (16 * 2 ^ K)).1 = (flL l by' (16 * 2 ^ K)).2) (s : List UInt8) :
    Con Tryz.prog Tryz.L 59 [sg l, .str s, .bool false, .str (tz (by' : Int))] (.tup [.str (tz (flL l by' (16 * 2 ^ K)).1), .bool false]) := by
  refine rule59 Tryz.hL rfl rfl rfl ?_
  (simp only [pc59, rs59, oU, oC]; refine ev ?_; try with_reducible exact trivial)
  refine loopF_of (fun E => ∃ j : Nat, j ≤ K ∧ E = [(0, sg l), (3, .str (tz (by' : Int))), (15, .int .i64 ((16 * 2 ^ j : Nat) : Int))])
    (fun E => match lk E 15 with | .int _ i => 16 * 2 ^ K - i.toNat | _ => 0) ⟨0, Nat.zero_le _, rfl⟩ ?_
  rintro _ ⟨j, hj, rfl⟩
  have hjk : 2 ^ j ≤ 2 ^ K := Nat.pow_le_pow_right (by decide) hj
  have hj1 : j < K → 2 ^ j * 2 ≤ 2 ^ K := fun h => by rw [← Nat.pow_succ]; exact Nat.pow_le_pow_right (by decide) h
  have hj0 : 0 < 2 ^ j := Nat.pow_pos (by decide)
  have hb : 16 * 2 ^ j ≤ 4096 := by omega
  have hp : 16 * 2 ^ (j + 1) = 16 * 2 ^ j * 2 := by rw [Nat.pow_succ, ← Nat.mul_assoc]
  have hno := hno j
  have hy2 : j = K → (flL l by' (16 * 2 ^ j)).1 = (flL l by' (16 * 2 ^ j)).2 := fun e => by rw [e]; exact hyes
  have hres : j = K → flL l by' (16 * 2 ^ j) = flL l by' (16 * 2 ^ K) := fun e => by rw [e]
  generalize hb2 : 16 * 2 ^ j = b at *
  obtain ⟨b1, b2⟩ := encL_dl hl h hb
  have henc := Tryz.enclose l hl h b hb
  have p2 := Tryz.power 2 b (by rw [dl_two]; decide) (by rw [dl_two]; omega)
  have d2 := dl_pow 2 b
  rw [dl_two] at d2
  have e2 : (2 : Int) ^ b = ((2 ^ b : Nat) : Int) := by rw [Int.natCast_pow]; rfl
  rw [two_tz, e2] at p2
  rw [e2] at d2
  have hdl := denL_dl hl (fun x hx => (h x hx).1)
  have hdp : 0 < denL l := denL_pos (l := l) (by decide)
  have h2p : 0 < 2 ^ b := Nat.pow_pos (by decide)
  have hden := Nat.mul_pos hdp h2p
  have hml := dl_mul (denL l : Int) ((2 ^ b : Nat) : Int)
  have hm := Tryz.mul (denL l : Int) ((2 ^ b : Nat) : Int) (by omega) (by omega)
  rw [← Int.natCast_mul] at hml hm
  unfold flL at hno hy2 hres
  have m1 := Tryz.mul (encL l b).1 by' (by omega) (by omega)
  have m2 := Tryz.mul (encL l b).2 by' (by omega) (by omega)
  have l1 := dl_mul (encL l b).1 by'
  have l2 := dl_mul (encL l b).2 by'
  have v1 := Tryz.divMod ((encL l b).1 * by') ((denL l * 2 ^ b : Nat) : Int) (by omega) (by omega) (by omega)
  have v2 := Tryz.divMod ((encL l b).2 * by') ((denL l * 2 ^ b : Nat) : Int) (by omega) (by omega) (by omega)
  (refine ev ?_; try with_reducible exact trivial)
  refine callF_of henc ?_
  (refine ev ?_; try with_reducible exact trivial)
  refine callF_of p2 ?_
  (refine ev ?_; try with_reducible exact trivial)
  refine callF_of hm ?_
  (refine ev ?_; try with_reducible exact trivial)
  refine callF_of m1 ?_
  (refine ev ?_; try with_reducible exact trivial)
  refine callF_of v1 ?_
  (refine ev ?_; try with_reducible exact trivial)
  refine callF_of m2 ?_
  (refine ev ?_; try with_reducible exact trivial)
  refine callF_of v2 ?_
  (refine ev ?_; try with_reducible exact trivial)
  rw [tz_eq_iff]
  refine ⟨fun h1 => ?_, fun h1 => ?_⟩
  · have hjK : j = K := by
      rcases Nat.lt_or_ge j K with h2 | h2
      · exact absurd h1 (hno h2)
      · omega
    clear hres hy2 hno hyes
    subst hjK
    rw [hb2]
    unfold flL
    simp [resD, rvD, lk, D.plain, D.isPure, optAll]
  · have hjK : j < K := by
      rcases Nat.lt_or_ge j K with h2 | h2
      · exact h2
      · exact absurd (hy2 (by omega)) h1
    have := hj1 hjK
    exact ⟨by omega, ⟨j + 1, hjK, by rw [hp, Int.natCast_mul]; rfl⟩, by omega⟩

theorem Tryz.sbounds (l : List Tm) (h : SOk l) (hn : l.length = 1 → ∀ x ∈ l, x.2 ≠ 1) (h0 : l ≠ []) (den : Nat) (hd1 : 1 ≤ den) (hd2 : den ≤ 1000000) (n : Int) (hnl : dl n ≤ 150)
    (hf : ∀ s, Con Tryz.prog Tryz.L 59 [sg l, .str s, .bool false, .str (tz (den : Int))] (.tup [.str (tz n), .bool false])) :
    Con Tryz.prog Tryz.L 22 [sg l, .int .i64 den] (.tup [.str (rt (mkRat n den)), .str (rt (mkRat (n + 1) den)), .int .i64 0]) := by
  have hdd : dl (den : Int) ≤ 7 := dd_len_le (by decide) (by rw [Int.natAbs_natCast]; omega)
  have hn1 := dl_add (x := n) (y := 1) (k := 150) (by omega) (by rw [dl_one]; omega)
  have ho1 := Tryz.over n den (by omega) (by omega) (by omega)
  have ho2 := Tryz.over (n + 1) den (by omega) (by omega) (by omega)
  have r1 : rd (mkRat n den) ≤ 200 := rd_mk (by omega) (by omega) (by have := dl_nat den; omega)
  have r2 : rd (mkRat (n + 1) den) ≤ 200 := rd_mk (by omega) (by omega) (by have := dl_nat den; omega)
  have had := Tryz.add n 1 (by omega) (by rw [dl_one]; omega)
  rw [one_tz] at had
  refine rule22 Tryz.hL rfl rfl rfl ?_
  (simp only [pc22, rs22, oU, oC]; refine ev ?_; try with_reducible exact trivial)
  refine callF_of (Tryz.rationalN l h hn h0) ?_
  (refine ev ?_; try with_reducible exact trivial)
  refine ⟨fun h1 => ?_, fun h1 => ?_⟩
  · refine ⟨fun h2 => absurd h2 (by omega), fun _ => ?_⟩
    refine callF_of (Tryz.of den (by rw [inR_i64]; omega)) ?_
    (refine ev ?_; try with_reducible exact trivial)
    refine callF_of (hf _) ?_
    (refine ev ?_; try with_reducible exact trivial)
    refine callF_of ho1 ?_
    (refine ev ?_; try with_reducible exact trivial)
    refine callF_of ho1 ?_
    (refine ev ?_; try with_reducible exact trivial)
    refine callF_of had ?_
    (refine ev ?_; try with_reducible exact trivial)
    refine callF_of ho2 ?_
    (refine ev ?_; try with_reducible exact trivial)
    refine callF_of (Tryz.rcheckQ _ r1) ?_
    (refine ev ?_; try with_reducible exact trivial)
    refine callF_of (Tryz.rcheckQ _ r2) ?_
    (refine ev ?_; try with_reducible exact trivial)
    simp [resD, rvD, lk, D.plain, D.isPure, optAll]
  · exact absurd hd1 (by omega)
end Go.Proofs

/-
  SURD: the closed values of known(). Own work.
-/
namespace Go.Proofs
open Go Go.Pi Go.RowKit Go.Ar

theorem nisq_2 : ¬isq 2 := not_isq (r := 1) (by decide) (by decide)
theorem nisq_5 : ¬isq 5 := not_isq (r := 2) (by decide) (by decide)
theorem nisq_8 : ¬isq 8 := not_isq (r := 2) (by decide) (by decide)
theorem dl_small {n k : Nat} (hk : 0 < k) (h : n < 10 ^ k) : dl (n : Int) ≤ k := dd_len_le hk h
theorem rd_int {z : Int} {k : Nat} (hk : 0 < k) (h : z.natAbs < 10 ^ k) : rd (z : Rat) ≤ k := by
  rw [rd_z]; exact dd_len_le hk h
def kA : List Tm := [(99, 1), (-70, 2)]
def kB : List Tm := [(1, 2)]
def kC : List Tm := [(mkRat 1 2, 1), (-1, 5)]
theorem sok2 {x y : Tm} (hx : tOk x) (hy : tOk y) (h1 : x.2 < y.2) (h2 : ¬isq (x.2 * y.2)) : SOk [x, y] := by
  refine ⟨by simp, fun z hz => ?_, fun i j a b hij ha hb => ?_⟩
  · simp only [List.mem_cons, List.not_mem_nil, or_false] at hz
    rcases hz with rfl | rfl
    · exact hx
    · exact hy
  · match i, j, ha, hb with
    | 0, 1, ha, hb => simp at ha hb; subst ha hb; exact ⟨h1, h2⟩
    | 0, j + 2, _, hb => simp at hb
    | 1, j + 2, _, hb => simp at hb
    | i + 2, _, ha, _ => simp at ha
    | 0, 0, _, _ => omega
    | 1, 0, _, _ => omega
    | 1, 1, _, _ => omega
theorem sok1 {x : Tm} (hx : tOk x) : SOk [x] := by
  refine ⟨by simp, fun z hz => by rw [List.mem_singleton.1 hz]; exact hx, fun i j a b hij ha hb => ?_⟩
  match i, j, ha, hb with
  | 0, j + 1, _, hb => simp at hb
  | i + 1, _, ha, _ => simp at ha
theorem kA_ok : SOk kA := by
  refine sok2 ⟨by decide, ?_, by decide, dl_small (by decide) (by decide), fun _ => rfl⟩ ⟨by decide, ?_, by decide, dl_small (by decide) (by decide), fun h => absurd h nisq_2⟩ (by decide) nisq_2
  · exact rd_int (z := 99) (by decide) (by decide)
  · exact rd_int (z := -70) (by decide) (by decide)
theorem kB_ok : SOk kB := sok1 ⟨by decide, rd_int (z := 1) (by decide) (by decide), by decide, dl_small (by decide) (by decide), fun h => absurd h nisq_2⟩
theorem half_rd : rd (mkRat 1 2) ≤ 200 := rd_mk (n := 1) (d := 2) (k := 200) (by decide) (dl_small (n := 1) (by decide) (by decide)) (dl_small (n := 2) (by decide) (by decide))
theorem half_ne : mkRat 1 2 ≠ 0 := fun h => by have := (Rat.mkRat_eq_zero (by decide)).1 h; omega
theorem kC_ok : SOk kC := sok2 ⟨half_ne, half_rd, by decide, dl_small (by decide) (by decide), fun _ => rfl⟩ ⟨by decide, rd_int (z := -1) (by decide) (by decide), by decide, dl_small (by decide) (by decide), fun h => absurd h nisq_5⟩ (by decide) nisq_5
theorem nrt_a : nrt (1 * 4 ^ 16) = 65536 := (nrt_unique (r := 65536) (by decide) (by decide)).symm
theorem nrt_b : nrt (2 * 4 ^ 16) = 92681 := (nrt_unique (r := 92681) (by decide) (by decide)).symm
theorem isq_a : isq (1 * 4 ^ 16) := isq_sq 65536
theorem isq_b : ¬isq (2 * 4 ^ 16) := not_isq (r := 92681) (by decide) (by decide)
theorem denA : denL kA = 1 := by decide
theorem denB : denL kB = 1 := by decide
theorem encA : 0 < (encL kA 16).1 := by
  unfold encL
  rw [denA]
  simp only [kA, List.foldl_cons, List.foldl_nil, encF, upR, nrt_a, nrt_b, if_pos isq_a, if_neg isq_b]
  decide
theorem encB : encL kB 16 = (92681, 92682) := by
  unfold encL
  rw [denB]
  simp only [kB, List.foldl_cons, List.foldl_nil, encF, upR, nrt_b, if_neg isq_b]
  decide
theorem Tryz.kSign : Con Tryz.prog Tryz.L 32 [sg kA] (.tup [.int .i64 1, .int .i64 0]) :=
  Tryz.ssignE kA kA_ok 1 (Tryz.ssign kA kA_ok (by decide) 0 (by decide) (fun j h => absurd h (Nat.not_lt_zero _)) 1 (.inl ⟨encA, rfl⟩))
theorem flB : flL kB 10 (16 * 2 ^ 0) = (14, 14) := by
  unfold flL
  rw [show 16 * 2 ^ 0 = 16 from rfl, encB, denB]
  decide
theorem Tryz.kBounds : Con Tryz.prog Tryz.L 22 [sg kB, .int .i64 10] (.tup [.str (rt (mkRat 14 10)), .str (rt (mkRat 15 10)), .int .i64 0]) := by
  have h' : ∀ x ∈ kB, rd x.1 ≤ 200 ∧ dl (x.2 : Int) ≤ 200 := fun x hx => ⟨(kB_ok.ok x hx).2.1, (kB_ok.ok x hx).2.2.2.1⟩
  refine Tryz.sbounds kB kB_ok (fun _ x hx => by rw [List.mem_singleton.1 hx]; decide) (by decide) 10 (by decide) (by decide) 14 (dl_small (n := 14) (by decide) (by decide)) (fun s => ?_)
  have := Tryz.floorN kB (by decide) h' 10 (dl_small (by decide) (by decide)) 0 (by decide) (fun j h => absurd h (Nat.not_lt_zero _)) (by rw [flB]) s
  rw [flB] at this
  exact this

/-- texts of the examples -/
theorem frac_txt {n : Int} {d : Nat} (hd : 1 < d) (hc : Nat.gcd n.natAbs d = 1) : rt (mkRat n d) = tz n ++ 47 :: dd d := by
  rw [rt_mk (by omega), hc, Nat.div_one, if_neg (by omega)]; simp
theorem txt_half : rt (mkRat 1 2) = [49, 47, 50] := by
  rw [frac_txt (by decide) (by decide), one_tz, show dd 2 = [50] from dd_small (by decide)]; rfl
theorem txt_94 : rt (mkRat 9 4) = [57, 47, 52] := by
  rw [frac_txt (by decide) (by decide), show dd 4 = [52] from dd_small (by decide), show (9 : Int) = ((9 : Nat) : Int) from rfl, dd_tz, show dd 9 = [57] from dd_small (by decide)]; rfl
theorem txt_32 : rt (mkRat 3 2) = [51, 47, 50] := by
  rw [frac_txt (by decide) (by decide), show dd 2 = [50] from dd_small (by decide), show (3 : Int) = ((3 : Nat) : Int) from rfl, dd_tz, show dd 3 = [51] from dd_small (by decide)]; rfl
theorem half_parts : (mkRat 1 2).num = 1 ∧ (mkRat 1 2).den = 2 := mk_cop (by decide) (by decide)
theorem q94_parts : (mkRat 9 4).num = 9 ∧ (mkRat 9 4).den = 4 := mk_cop (by decide) (by decide)
theorem Tryz.kOf8 : Con Tryz.prog Tryz.L 14 [.str [56]] (.tup [sg [(1, 8)], .int .i64 0]) := by
  have h := Tryz.of' (8 : Int) (rd_int (by decide) (by decide))
  rw [show rt ((8 : Int) : Rat) = [56] by rw [rt_z, show (8 : Int) = ((8 : Nat) : Int) from rfl, dd_tz, show dd 8 = [56] from dd_small (by decide)]] at h
  unfold ofD ofL at h
  rw [show ((8 : Int) : Rat).num = 8 from rfl, show ((8 : Int) : Rat).den = 1 from rfl, show (8 : Int).natAbs * 1 = 8 from rfl] at h
  rw [if_neg (by decide), if_neg (by decide), if_neg (fun h => absurd h.2 (by have := dl_small (n := 8) (k := 1) (by decide) (by decide); omega)), if_neg nisq_8] at h
  rw [show mkRat 1 1 = 1 from mk_one 1] at h
  exact h
theorem Tryz.kOf12 : Con Tryz.prog Tryz.L 14 [.str [49, 47, 50]] (.tup [sg [(mkRat 1 2, 2)], .int .i64 0]) := by
  have h := Tryz.of' (mkRat 1 2) half_rd
  rw [txt_half] at h
  unfold ofD ofL at h
  rw [half_parts.1, half_parts.2, show (1 : Int).natAbs * 2 = 2 from rfl] at h
  rw [if_neg (by decide), if_neg half_ne, if_neg (fun h => absurd h.2 (by have := dl_small (n := 2) (k := 1) (by decide) (by decide); omega)), if_neg nisq_2] at h
  exact h
theorem Tryz.kOf94 : Con Tryz.prog Tryz.L 14 [.str [57, 47, 52]] (.tup [sg [(mkRat 3 2, 1)], .int .i64 0]) := by
  have hq : rd (mkRat 9 4) ≤ 200 := rd_mk (by decide) (dl_small (n := 9) (by decide) (by decide)) (dl_small (n := 4) (by decide) (by decide))
  have h := Tryz.of' (mkRat 9 4) hq
  rw [txt_94] at h
  unfold ofD ofL at h
  rw [q94_parts.1, q94_parts.2, show (9 : Int).natAbs * 4 = 36 from rfl] at h
  have h36 : isq 36 := isq_sq 6
  have n36 : nrt 36 = 6 := nrt_sq 6
  rw [if_neg (by decide), if_neg (fun h => by have := (Rat.mkRat_eq_zero (by decide)).1 h; omega), if_neg (fun h => h.1 h36), if_pos h36, n36] at h
  rw [show mkRat ((6 : Nat) : Int) 4 = mkRat 3 2 from (Rat.mkRat_eq_iff (by decide) (by decide)).2 (by decide)] at h
  exact h
end Go.Proofs

/-
  SURD: known(), but for Text; SurdRoots. Own work.
-/
namespace Go.Proofs
open Go Go.Pi Go.RowKit Go.Ar

theorem txt_75 : rt (mkRat 14 10) = [55, 47, 53] := by
  rw [show mkRat 14 10 = mkRat 7 5 from (Rat.mkRat_eq_iff (by decide) (by decide)).2 (by decide), frac_txt (by decide) (by decide), show dd 5 = [53] from dd_small (by decide), show (7 : Int) = ((7 : Nat) : Int) from rfl, dd_tz, show dd 7 = [55] from dd_small (by decide)]; rfl
theorem txt_1510 : rt (mkRat 15 10) = [51, 47, 50] := by
  rw [show mkRat 15 10 = mkRat 3 2 from (Rat.mkRat_eq_iff (by decide) (by decide)).2 (by decide)]; exact txt_32
theorem sg_a : sg [(1, 8)] = .sl 1 [.str [49], .str [56]] := by
  simp only [sg, tms, rows, tD, List.flatMap_cons, List.flatMap_nil, List.append_nil, List.length_singleton]
  rw [show rt 1 = [49] from rt_one.2 rfl, dd_tz, show dd 8 = [56] from dd_small (by decide)]
theorem sg_b : sg [(mkRat 1 2, 2)] = .sl 1 [.str [49, 47, 50], .str [50]] := by
  simp only [sg, tms, rows, tD, List.flatMap_cons, List.flatMap_nil, List.append_nil, List.length_singleton]
  rw [txt_half, dd_tz, show dd 2 = [50] from dd_small (by decide)]
theorem sg_c : sg [(mkRat 3 2, 1)] = .sl 1 [.str [51, 47, 50], .str [49]] := by
  simp only [sg, tms, rows, tD, List.flatMap_cons, List.flatMap_nil, List.append_nil, List.length_singleton]
  rw [txt_32, dd_tz, show dd 1 = [49] from dd_small (by decide)]
theorem sg_kB : sg kB = .sl 1 [.str [49], .str [50]] := by
  simp only [sg, kB, tms, rows, tD, List.flatMap_cons, List.flatMap_nil, List.append_nil, List.length_singleton]
  rw [show rt 1 = [49] from rt_one.2 rfl, dd_tz, show dd 2 = [50] from dd_small (by decide)]
theorem txt_99 : rt 99 = [57, 57] := by
  rw [show (99 : Rat) = ((99 : Int) : Rat) from rfl, rt_z, show (99 : Int) = ((99 : Nat) : Int) from rfl, dd_tz, dd_big (by decide), dd_small (by decide)]; rfl
theorem txt_70 : rt (-70) = [45, 55, 48] := by
  rw [show (-70 : Rat) = ((-70 : Int) : Rat) from rfl, rt_z, tz_nat, if_pos (by decide), show (-70 : Int).natAbs = 70 from rfl, dd_big (by decide), dd_small (by decide)]; rfl
theorem sg_kA : sg kA = .sl 2 [.str [57, 57], .str [49], .str [45, 55, 48], .str [50]] := by
  simp only [sg, kA, tms, rows, tD, List.flatMap_cons, List.flatMap_nil, List.append_nil, List.length_cons, List.length_nil, List.cons_append, List.nil_append]
  rw [txt_99, txt_70, dd_tz, dd_tz, show dd 2 = [50] from dd_small (by decide), show dd 1 = [49] from dd_small (by decide)]
theorem txt_m1 : rt (-1) = [45, 49] := by
  rw [show (-1 : Rat) = ((-1 : Int) : Rat) from rfl, rt_z, tz_nat, if_pos (by decide), show (-1 : Int).natAbs = 1 from rfl, dd_small (by decide)]; rfl
theorem sg_kC : sg kC = .sl 2 [.str [49, 47, 50], .str [49], .str [45, 49], .str [53]] := by
  simp only [sg, kC, tms, rows, tD, List.flatMap_cons, List.flatMap_nil, List.append_nil, List.length_cons, List.length_nil, List.cons_append, List.nil_append]
  rw [txt_half, txt_m1, dd_tz, dd_tz, show dd 5 = [53] from dd_small (by decide), show dd 1 = [49] from dd_small (by decide)]

set_option maxHeartbeats 8000000 in
theorem Tryz.known' (hT : Con Tryz.prog Tryz.L 27 [sg kC] (.tup [.str [49, 47, 50, 32, 45, 32, 115, 113, 114, 116, 40, 53, 41], .int .i64 0])) : Con Tryz.prog Tryz.L 13 [] (.bool true) := by
  have h1 := Tryz.kOf8
  have h2 := Tryz.kOf12
  have h3 := Tryz.kOf94
  have h4 := Tryz.kSign
  have h5 := Tryz.kBounds
  have p1 := Tryz.plain [(1, 8)] (by decide)
  have p2 := Tryz.plain [(mkRat 1 2, 2)] (by simp)
  have p3 := Tryz.plain [(mkRat 3 2, 1)] (by simp)
  have s1 := Tryz.ysame [(1, 8)] (by decide)
  have s2 := Tryz.ysame [(mkRat 1 2, 2)] (by simp)
  have s3 := Tryz.ysame [(mkRat 3 2, 1)] (by simp)
  rw [sg_a] at h1 p1 s1
  rw [sg_b] at h2 p2 s2
  rw [sg_c] at h3 p3 s3
  rw [sg_kA] at h4
  rw [sg_kB, txt_75, txt_1510] at h5
  rw [sg_kC] at hT
  refine rule13 Tryz.hL rfl rfl rfl ?_
  (simp only [pc13, rs13, oU, oC]; refine ev ?_; try with_reducible exact trivial)
  refine callF_of h1 ?_
  (refine ev ?_; try with_reducible exact trivial)
  refine callF_of h2 ?_
  (refine ev ?_; try with_reducible exact trivial)
  refine callF_of h3 ?_
  (refine ev ?_; try with_reducible exact trivial)
  refine callF_of h4 ?_
  (refine ev ?_; try with_reducible exact trivial)
  refine callF_of hT ?_
  (refine ev ?_; try with_reducible exact trivial)
  refine callF_of h5 ?_
  (refine ev ?_; try with_reducible exact trivial)
  refine callF_of p1 ?_
  (refine ev ?_; try with_reducible exact trivial)
  refine callF_of s1 ?_
  (refine ev ?_; try with_reducible exact trivial)
  refine callF_of p2 ?_
  (refine ev ?_; try with_reducible exact trivial)
  refine callF_of s2 ?_
  (refine ev ?_; try with_reducible exact trivial)
  refine callF_of p3 ?_
  (refine ev ?_; try with_reducible exact trivial)
  refine callF_of s3 ?_
  (refine ev ?_; try with_reducible exact trivial)

theorem Tryz.of_bad (s : List UInt8) (hs : s.length ≤ 1000) (h : ¬okR s) : Con Tryz.prog Tryz.L 14 [.str s] (.tup [.sl 0 [], .int .i64 2]) := by
  have hc := Tryz.rcheck s (by omega)
  rw [chk_f h] at hc
  refine rule14 Tryz.hL rfl rfl rfl ?_
  (simp only [pc14, rs14, oU, oC]; refine ev ?_; try with_reducible exact trivial)
  refine callF_of hc ?_
  (refine ev ?_; try with_reducible exact trivial)
  simp [resD_two, rvD, lk, D.plain, D.isPure, optAll]
theorem Tryz.from_bad (s : List UInt8) (hs : s.length ≤ 1000) (h : ¬okR s) : Con Tryz.prog Tryz.L 15 [.str s] (.tup [.sl 0 [], .int .i64 2]) := by
  have hc := Tryz.rcheck s (by omega)
  rw [chk_f h] at hc
  refine rule15 Tryz.hL rfl rfl rfl ?_
  (simp only [pc15, rs15, oU, oC]; refine ev ?_; try with_reducible exact trivial)
  refine callF_of hc ?_
  (refine ev ?_; try with_reducible exact trivial)
  simp [resD_two, rvD, lk, D.plain, D.isPure, optAll]
theorem Tryz.from_zero : Con Tryz.prog Tryz.L 15 [.str [48]] (.tup [.sl 0 [], .int .i64 0]) := by
  have hc := Tryz.rcheckQ 0 (by rw [show (0 : Rat) = ((0 : Int) : Rat) from rfl]; exact rd_int (by decide) (by decide))
  rw [zero_txt] at hc
  refine rule15 Tryz.hL rfl rfl rfl ?_
  (simp only [pc15, rs15, oU, oC]; refine ev ?_; try with_reducible exact trivial)
  refine callF_of hc ?_
  (refine ev ?_; try with_reducible exact trivial)
  simp [resD_two, rvD, lk, D.plain, D.isPure, optAll]
theorem Tryz.yof_bad (s : List UInt8) (hs : s.length ≤ 1000) (h : ¬okR s) : Con Tryz.prog Tryz.L 16 [.str s] (.tup [.sl 0 [], .int .i64 2]) := by
  obtain ⟨a, b, hp, _⟩ := Tryz.yparts s (by omega)
  rw [dB_f h] at hp
  refine rule16 Tryz.hL rfl rfl rfl ?_
  (simp only [pc16, rs16, oU, oC]; refine ev ?_; try with_reducible exact trivial)
  refine callF_of hp ?_
  (refine ev ?_; try with_reducible exact trivial)
  simp [resD_two, rvD, lk, D.plain, D.isPure, optAll]
/-- the answer of Of as a list and an error -/
theorem ofD_form (q : Rat) : ∃ (l : List Tm) (e : Int), l.length ≤ 1 ∧ ofD q = .tup [sg l, .int .i64 e] := by
  unfold ofD
  split
  · exact ⟨[], 3, by simp, rfl⟩
  · split
    · exact ⟨[], 0, by simp, rfl⟩
    · split
      · exact ⟨[], 4, by simp, rfl⟩
      · refine ⟨ofL q, 0, ?_, rfl⟩
        unfold ofL; split <;> simp

theorem Tryz.roots (hk : Con Tryz.prog Tryz.L 13 [] (.bool true)) (s : List UInt8) (hs : s.length ≤ 9000000) : Con Tryz.prog Tryz.L 3 [.str s] (.bool true) := by
  refine rule3 Tryz.hL rfl rfl rfl ?_
  (simp only [pc3, rs3, oU, oC]; refine ev ?_; try with_reducible exact trivial)
  refine callF_of hk ?_
  (refine ev ?_; try with_reducible exact trivial)
  refine ⟨fun h1 => ?_, fun h1 => ?_⟩
  · refine callF_of hk ?_
    (refine ev ?_; try with_reducible exact trivial)
  have hs2 : s.length ≤ 450 := by omega
  have n0 := Tryz.plain [] (by decide)
  have z0 := Tryz.ysame [] (by decide)
  by_cases hr : okR s
  · obtain ⟨q, rfl, hq⟩ := hr
    obtain ⟨l, e, hl, he⟩ := ofD_form q
    have h2 := Tryz.of' q hq
    have h3 := Tryz.yof q hq
    rw [he] at h2 h3
    have pl := Tryz.plain l (by omega)
    have sm := Tryz.ysame l (by omega)
    obtain ⟨a, b, hp, _⟩ := Tryz.yparts (rt q) (by omega)
    rw [dB_t ((okR_rt q).2 hq)] at hp
    refine callF_of h2 ?_
    (refine ev ?_; try with_reducible exact trivial)
    by_cases h0 : q = 0
    · subst h0
      rw [zero_txt] at h3 hp ⊢
      refine callF_of Tryz.from_zero ?_
      (refine ev ?_; try with_reducible exact trivial)
      refine callF_of h3 ?_
      (refine ev ?_; try with_reducible exact trivial)
      refine callF_of pl ?_
      (refine ev ?_; try with_reducible exact trivial)
      refine callF_of sm ?_
      (refine ev ?_; try with_reducible exact trivial)
      refine callF_of hp ?_
      (refine ev ?_; try with_reducible exact trivial)
      exact fun h => absurd rfl h
    · have p1 := Tryz.plain [(q, 1)] (by simp)
      have s1 := Tryz.ysame [(q, 1)] (by simp)
      have hf := Tryz.from q hq h0
      have e1 : sg [(q, 1)] = .sl 1 [.str (rt q), .str [49]] := by
        simp only [sg, tms, rows, tD, List.flatMap_cons, List.flatMap_nil, List.append_nil, List.length_singleton]
        rw [dd_tz, show dd 1 = [49] from dd_small (by decide)]
      rw [e1] at p1 s1 hf
      refine callF_of hf ?_
      (refine ev ?_; try with_reducible exact trivial)
      refine callF_of h3 ?_
      (refine ev ?_; try with_reducible exact trivial)
      refine callF_of pl ?_
      (refine ev ?_; try with_reducible exact trivial)
      refine callF_of sm ?_
      (refine ev ?_; try with_reducible exact trivial)
      refine callF_of hp ?_
      (refine ev ?_; try with_reducible exact trivial)
      rw [rt_zero]
      refine ⟨fun h => absurd h h0, fun _ => ?_⟩
      refine callF_of p1 ?_
      (refine ev ?_; try with_reducible exact trivial)
      refine callF_of s1 ?_
      (refine ev ?_; try with_reducible exact trivial)
  · refine callF_of (Tryz.of_bad s (by omega) hr) ?_
    (refine ev ?_; try with_reducible exact trivial)
    refine callF_of (Tryz.from_bad s (by omega) hr) ?_
    (refine ev ?_; try with_reducible exact trivial)
    refine callF_of (Tryz.yof_bad s (by omega) hr) ?_
    (refine ev ?_; try with_reducible exact trivial)
    refine callF_of n0 ?_
    (refine ev ?_; try with_reducible exact trivial)
    refine callF_of z0 ?_
    (refine ev ?_; try with_reducible exact trivial)
    obtain ⟨a, b, hp, _⟩ := Tryz.yparts s (by omega)
    rw [dB_f hr] at hp
    refine callF_of hp ?_
    (refine ev ?_; try with_reducible exact trivial)
    exact fun h => absurd rfl h
end Go.Proofs

/-
  SURD: Text by hand (strings.Builder). Own work. UNDER WAY.
-/
namespace Go.Proofs
open Go Go.Pi Go.RowKit Go.Shelf Go.Ar
attribute [local go_sem] Oper.semAt_some

/-- the text of a term -/
def termT (first : Bool) (x : Tm) : List UInt8 :=
  (if x.1 < 0 then (if first then [45] else [32, 45, 32]) else (if first then [] else [32, 43, 32])) ++
  (if x.2 = 1 then rt (absQ x.1) else if absQ x.1 = 1 then [115, 113, 114, 116, 40] ++ tz (x.2 : Int) ++ [41] else rt (absQ x.1) ++ [32, 115, 113, 114, 116, 40] ++ tz (x.2 : Int) ++ [41])
def sumT : Bool → List Tm → List UInt8
  | _, [] => []
  | b, x :: l => termT b x ++ sumT false l

theorem termT_len (b : Bool) (x : Tm) (h1 : rd x.1 ≤ 200) (h2 : dl (x.2 : Int) ≤ 200) : (termT b x).length ≤ 1000 := by
  have l1 := rt_len (absQ x.1)
  rw [rd_abs] at l1
  have l2 := tz_dl (x.2 : Int)
  unfold termT
  rw [List.length_append]
  have e1 : (if x.1 < 0 then (if b then [45] else [32, 45, 32]) else (if b then [] else [32, 43, 32]) : List UInt8).length ≤ 3 := by
    split <;> split <;> decide
  have e2 : (if x.2 = 1 then rt (absQ x.1) else if absQ x.1 = 1 then [115, 113, 114, 116, 40] ++ tz (x.2 : Int) ++ [41] else rt (absQ x.1) ++ [32, 115, 113, 114, 116, 40] ++ tz (x.2 : Int) ++ [41]).length ≤ 900 := by
    split
    · omega
    · split <;> simp only [List.length_append, List.length_cons, List.length_nil] <;> omega
  omega
theorem termT_parts (k : Nat) (x : Tm) : termT (decide (k = 0)) x = (if x.1.num < 0 then (if k = 0 then [45] else [32, 45, 32]) else (if k = 0 then [] else [32, 43, 32])) ++
    (if (tz (x.2 : Int) == [49]) = true then rt (absQ x.1) else if (rt (absQ x.1) == [49]) = true then [115, 113, 114, 116, 40] ++ tz (x.2 : Int) ++ [41] else rt (absQ x.1) ++ [32, 115, 113, 114, 116, 40] ++ tz (x.2 : Int) ++ [41]) := by
  unfold termT
  have e1 : (x.1 < 0) = (x.1.num < 0) := propext (sign_num x.1).1.symm
  have e2 : ((tz (x.2 : Int) == [49]) = true) = (x.2 = 1) := by rw [beq_iff_eq, tz_one]; exact propext ⟨fun h => by omega, fun h => by omega⟩
  have e3 : ((rt (absQ x.1) == [49]) = true) = (absQ x.1 = 1) := by rw [beq_iff_eq, rt_one]
  simp only [e1, e2, e3, decide_eq_true_eq]
theorem sumT_len : ∀ (b : Bool) (l : List Tm), (∀ x ∈ l, rd x.1 ≤ 200 ∧ dl (x.2 : Int) ≤ 200) → (sumT b l).length ≤ 1000 * l.length
  | _, [], _ => by simp [sumT]
  | b, x :: l, h => by
    have h1 := termT_len b x (h x (List.mem_cons_self ..)).1 (h x (List.mem_cons_self ..)).2
    have h2 := sumT_len false l fun y hy => h y (List.mem_cons_of_mem _ hy)
    show (termT b x ++ sumT false l).length ≤ _
    rw [List.length_append, List.length_cons]; omega
theorem sumT_ne (b : Bool) {l : List Tm} (h : l ≠ []) : sumT b l ≠ [] := by
  cases l with
  | nil => exact absurd rfl h
  | cons x l =>
    intro e
    have h1 : termT b x = [] := (List.append_eq_nil_iff.1 e).1
    unfold termT at h1
    have h2 := (List.append_eq_nil_iff.1 h1).2
    split at h2
    · exact rt_ne h2
    · split at h2 <;> simp at h2
theorem sumT_snoc : ∀ (b : Bool) (l : List Tm) (x : Tm), sumT b (l ++ [x]) = sumT b l ++ termT (b && l.isEmpty) x
  | b, [], x => by simp [sumT]
  | b, y :: l, x => by
    show termT b y ++ sumT false (l ++ [x]) = termT b y ++ sumT false l ++ _
    rw [sumT_snoc false l x, List.append_assoc]; simp
theorem sumT_take {l : List Tm} {k : Nat} {x : Tm} (h : l[k]? = some x) : sumT true (l.take (k + 1)) = sumT true (l.take k) ++ termT (decide (k = 0)) x := by
  rw [List.take_add_one, h]
  show sumT true (l.take k ++ [x]) = _
  rw [sumT_snoc]
  congr 2
  have hk := (List.getElem?_eq_some_iff.1 h).1
  cases k with
  | zero => simp
  | succ k =>
    have : l.take (k + 1) ≠ [] := fun e => by
      have h2 := congrArg List.length e
      rw [List.length_take, List.length_nil] at h2; omega
    simp [this]
theorem below_heap {W W' : World} (hb : Below W.heap.size W W') {k : Nat} {o : Obj} (ho : W.heap[k]? = some o) : W'.heap[k]? = some o := by
  rw [hb.block k (Array.getElem?_eq_some_iff.1 ho).1]; exact ho
theorem bld_write {T e : TypeId} {B b : Nat} {l s : List UInt8} {W' : World} (hB : Lib.BuilderAtF T e B b (.pointer (some ⟨b, 0, none⟩)) (Lib.byteCells l ++ Lib.byteCells s) W') : Lib.IsBuilderF T e B b (Lib.byteCells (l ++ s)) W' := by
  have h : Lib.byteCells (l ++ s) = Lib.byteCells l ++ Lib.byteCells s := by simp [Lib.byteCells]
  rw [h]; exact .inr hB
theorem sg_cells {S : Nat → Nat → Prop} {w : World} {l : List Tm} {ad : Option Addr} {cap : Nat} (hne : l ≠ []) (hS : ∀ b j, S b j → b < w.heap.size) (hx : Rep S w (sg l) (.slice ad l.length cap)) :
    ∃ b off, ad = some ⟨b, off, none⟩ ∧ b < w.heap.size ∧ ∀ W, Below w.heap.size w W → ∀ (k : Nat) (x : Tm), l[k]? = some x →
      W.cell? ⟨b, off + k * 2, none⟩ = some (.string ⟨(rt x.1).toArray⟩) ∧ W.cell? ⟨b, off + k * 2 + 1, none⟩ = some (.string ⟨(tz (x.2 : Int)).toArray⟩) := by
  have hlen : 0 < l.length := List.length_pos_iff.2 hne
  have hrl : (tms l).length = l.length * 2 := rows_length tD_len l
  have gen : ∀ n cs, n = l.length → cs = tms l → Rep S w (.sl n cs) (.slice ad n cap) → ∃ b off vs, ad = some ⟨b, off, none⟩ ∧ cs.length = vs.length ∧ Row S w b off vs ∧ ∀ (i : Nat) (d : D) (v : Value), cs[i]? = some d → vs[i]? = some v → Rep S w d v := by
    intro n cs hn hcs h
    cases h with
    | sl0 => omega
    | slN => omega
    | sl _ _ b off _ vs hl h1 hn hc hr h => exact ⟨b, off, vs, rfl, hl, hr, h⟩
  obtain ⟨b, off, vs, rfl, hl, hr, hh⟩ := gen _ _ rfl rfl hx
  have at' : ∀ (i : Nat) (s : List UInt8), (tms l)[i]? = some (.str s) → S b (off + i) ∧ w.cell? ⟨b, off + i, none⟩ = some (.string ⟨s.toArray⟩) := by
    intro i s hi
    have hil : i < vs.length := by
      have := (List.getElem?_eq_some_iff.1 hi).1; omega
    have hv : vs[i]? = some vs[i] := List.getElem?_eq_getElem hil
    have h1 := hr i _ hv
    have h2 := hh i _ _ hi hv
    generalize vs[i] = v at *
    cases h2
    exact h1
  have two : ∀ (k : Nat) (x : Tm), l[k]? = some x → (tms l)[k * 2]? = some (.str (rt x.1)) ∧ (tms l)[k * 2 + 1]? = some (.str (tz (x.2 : Int))) := by
    intro k x hk
    obtain ⟨r, e⟩ := rows_at tD_len hk
    have e0 := congrArg (fun z => z[0]?) e
    have e1 := congrArg (fun z => z[1]?) e
    simp only [List.getElem?_drop] at e0 e1
    exact ⟨e0, e1⟩
  have hb : b < w.heap.size := by
    obtain ⟨x, hx0⟩ : ∃ x, l[0]? = some x := ⟨_, List.getElem?_eq_getElem hlen⟩
    exact hS _ _ (at' _ _ (two 0 x hx0).1).1
  refine ⟨b, off, rfl, hb, fun W hW k x hk => ?_⟩
  obtain ⟨t1, t2⟩ := two k x hk
  have c1 := at' _ _ t1
  have c2 := at' _ _ t2
  exact ⟨(cell_of_heap (hW.block b hb)).trans c1.2, (cell_of_heap (hW.block b hb)).trans c2.2⟩

set_option maxRecDepth 100000 in
set_option maxHeartbeats 4000000 in
theorem Tryz.text (l : List Tm) (h : SOk l) (hne : l ≠ []) : Con Tryz.prog Tryz.L 27 [sg l] (.tup [.str (sumT true l), .int .i64 0]) := by
  have hl := h.len
  have hlen : 0 < l.length := List.length_pos_iff.2 hne
  have hck := Tryz.check l h
  refine ⟨⟨by kernel_rfl, rfl⟩, fun S w vs hS hL hv => ?_⟩
  obtain ⟨x, vs', rfl, hx, h2⟩ := hv.uncons
  have : vs' = [] := by cases vs' with | nil => rfl | cons _ _ => have := h2.1; simp at this
  subst this
  clear h2 hv
  obtain ⟨ad, cap, rfl⟩ : ∃ ad cap, x = .slice ad l.length cap := by
    have hs' : ∀ k cs, Rep S w (.sl k cs) x → ∃ ad cap, x = .slice ad k cap := fun k cs h => by cases h <;> exact ⟨_, _, rfl⟩
    exact hs' _ _ hx
  obtain ⟨b, off, rfl, hbw, hcells⟩ := sg_cells hne hS hx
  refine CallsIn.calls (F := Fence.wide) (n := 1) (callsIn_of_wp_marks Tryz.func27 rfl trivial ?_) (fun k d e => by cases e)
  simp only [Tryz.ntmps27, List.size_toArray, List.length_cons, List.length_nil, Nat.reduceAdd, Nat.reduceSub, Array.replicate_succ, Array.replicate_zero, List.push_toArray, List.append_toArray, List.nil_append, List.cons_append]
  have mixed : Tryz.prog.follows .mixedOrders = true := by kernel_rfl
  have t0 := Tryz.underlying25; have a0 := Tryz.isAgg25; have z0 := Tryz.sizeOf25; have v0 := Tryz.zeroValue25; have u0 := run_underlying Tryz.underlying25
  have t1 := Tryz.underlying45; have a1 := Tryz.isAgg45; have z1 := Tryz.sizeOf45; have v1 := Tryz.zeroValue45; have u1 := run_underlying Tryz.underlying45
  have t2 := Tryz.underlying26; have a2 := Tryz.isAgg26; have z2 := Tryz.sizeOf26; have v2 := Tryz.zeroValue26; have u2 := run_underlying Tryz.underlying26
  have t3 := Tryz.underlying4; have a3 := Tryz.isAgg4; have z3 := Tryz.sizeOf4; have v3 := Tryz.zeroValue4; have u3 := run_underlying Tryz.underlying4
  have t4 := Tryz.underlying3; have a4 := Tryz.isAgg3; have z4 := Tryz.sizeOf3; have v4 := Tryz.zeroValue3; have u4 := run_underlying Tryz.underlying3
  have t5 := Tryz.underlying9; have a5 := Tryz.isAgg9; have z5 := Tryz.sizeOf9; have v5 := Tryz.zeroValue9; have u5 := run_underlying Tryz.underlying9
  have t6 := Tryz.underlying22; have a6 := Tryz.isAgg22; have z6 := Tryz.sizeOf22; have v6 := Tryz.zeroValue22; have u6 := run_underlying Tryz.underlying22
  have t7 := Tryz.underlying35; have a7 := Tryz.isAgg35; have z7 := Tryz.sizeOf35; have v7 := Tryz.zeroValue35; have u7 := run_underlying Tryz.underlying35
  have t8 := Tryz.underlying112; have a8 := Tryz.isAgg112; have z8 := Tryz.sizeOf112; have v8 := Tryz.zeroValue112; have u8 := run_underlying Tryz.underlying112
  have t9 := Tryz.underlying109; have a9 := Tryz.isAgg109; have z9 := Tryz.sizeOf109; have v9 := Tryz.zeroValue109; have u9 := run_underlying Tryz.underlying109
  have t10 := Tryz.underlying110; have a10 := Tryz.isAgg110; have z10 := Tryz.sizeOf110; have v10 := Tryz.zeroValue110; have u10 := run_underlying Tryz.underlying110
  have t11 := Tryz.underlying5; have a11 := Tryz.isAgg5; have z11 := Tryz.sizeOf5; have v11 := Tryz.zeroValue5; have u11 := run_underlying Tryz.underlying5
  have e140 : ∀ args w, (callFunc 57 args).run Tryz.prog w = .ok (.enter 57 args) w := enters_of Tryz.func57 (by kernel_rfl) rfl
  have e141 : ∀ args w, (callFunc 71 args).run Tryz.prog w = .ok (.enter 71 args) w := enters_of Tryz.func71 (by kernel_rfl) rfl
  have e142 : ∀ args w, (callFunc 46 args).run Tryz.prog w = .ok (.enter 46 args) w := enters_of Tryz.func46 (by kernel_rfl) rfl
  have e143 : ∀ args w, (callFunc 72 args).run Tryz.prog w = .ok (.enter 72 args) w := enters_of Tryz.func72 (by kernel_rfl) rfl
  have e144 : ∀ args w, (callFunc 73 args).run Tryz.prog w = .ok (.enter 73 args) w := enters_of Tryz.func73 (by kernel_rfl) rfl
  have hlb : ((l.length : Int) == 0) = false := by rw [beq_eq_false_iff_ne]; omega
  gi_wp2
  have c0 := hck.2 S w [.slice (some ⟨b, off, none⟩) l.length cap] hS hL (Reps.cons hx .nil)
  refine ⟨trivial, CallsIn.mono ((callsIn_wide (n := 0)).2 c0) ?_⟩
  rintro e W1 ⟨v, rfl, hb1, hr1⟩
  obtain rfl : v = .int .i64 0 := by cases hr1; rfl
  clear hr1 c0
  gi_wp2
  have hbA : Below w.heap.size w (W1.alloc (.cells #[.pointer none, .slice none 0 0] 112)) := hb1.alloc hb1.size _
  have hF0 : Lib.IsBuilderF 112 5 w.heap.size W1.heap.size (Lib.byteCells []) (W1.alloc (.cells #[.pointer none, .slice none 0 0] 112)) := by
    refine .inl ⟨hb1.size, .slice none 0 0, ?_, World.ownsRowF_nil _ _ _ _, by simp [Value.ownBlock]⟩
    exact World.alloc_heap_new _ _
  generalize hW2 : W1.alloc (.cells #[.pointer none, .slice none 0 0] 112) = W2 at *
  gi_loopw [20] (fun i wr => ∃ k : Nat, k ≤ l.length ∧ i = .int .i64 k ∧ Below w.heap.size w wr ∧ Lib.IsBuilderF 112 5 w.heap.size W1.heap.size (Lib.byteCells (sumT true (l.take k))) wr) (fun i _ => l.length - (intOf i).toNat)
  case atStart => exact ⟨0, Nat.zero_le _, rfl, hbA, hF0⟩
  case round =>
    obtain ⟨k, hk, rfl, hbk, hFk⟩ := hrel
    by_cases hlt : k < l.length
    · have hex : ∃ x, l[k]? = some x := ⟨_, List.getElem?_eq_getElem hlt⟩
      obtain ⟨x, hx'⟩ := hex
      obtain ⟨a1, a2, a3, a4, a5⟩ := h.ok x (List.mem_of_getElem? hx')
      obtain ⟨cA, cB⟩ := hcells wr hbk k x hx'
      have hst := sumT_take hx'
      clear hx' hcells
      gi_wp2
      have hle := hbk.size
      have hb4 : Below w.heap.size w (wr.alloc (.cells #[.string ⟨(rt x.1).toArray⟩, .string ⟨(tz (x.2 : Int)).toArray⟩] 45)) := hbk.alloc hle _
      have hF4 := isF_kept hFk (w' := wr.alloc (.cells #[.string ⟨(rt x.1).toArray⟩, .string ⟨(tz (x.2 : Int)).toArray⟩] 45)) fun k o ho _ => (Below.heap_alloc _ _ _ (Array.getElem?_eq_some_iff.1 ho).1).trans ho
      have hB4 : (wr.alloc (.cells #[.string ⟨(rt x.1).toArray⟩, .string ⟨(tz (x.2 : Int)).toArray⟩] 45)).heap[wr.heap.size]? = some (.cells #[.string ⟨(rt x.1).toArray⟩, .string ⟨(tz (x.2 : Int)).toArray⟩] 45 (0, 0)) := World.alloc_heap_new _ _
      generalize (wr.alloc (.cells #[.string ⟨(rt x.1).toArray⟩, .string ⟨(tz (x.2 : Int)).toArray⟩] 45)) = W4 at *
      have c71 := (Tryz.rabs x.1 (by omega)).2 (fun _ _ => False) W4 [.string ⟨(rt x.1).toArray⟩] (fun _ _ h => h.elim) (Tryz.hL w _ hL hb4) (Reps.cons (.str _ (by have := rt_len x.1; unfold maxLen; omega)) .nil)
      refine ⟨trivial, CallsIn.mono ((callsIn_wide (n := 0)).2 c71) ?_⟩
      rintro e W5 ⟨v, rfl, hb5, hr⟩
      obtain rfl : v = .string ⟨(rt (absQ x.1)).toArray⟩ := by cases hr; rfl
      clear hr c71
      have hF5 := isF_kept (w' := W5) hF4 fun _ _ ho _ => below_heap hb5 ho
      have hB5 := below_heap hb5 hB4
      have hb5' := hb4.trans (hb5.mono hb4.size)
      have cb5 : W5.cell? ⟨wr.heap.size, 0, none⟩ = some (.string ⟨(rt x.1).toArray⟩) := by rw [Lib.cell_of_heap hB5]; rfl
      have cb5' : W5.cell? ⟨wr.heap.size, 1, none⟩ = some (.string ⟨(tz (x.2 : Int)).toArray⟩) := by rw [Lib.cell_of_heap hB5]; rfl
      clear hb5
      gi_wp2
      have c46 := (Tryz.rsign x.1 (by omega)).2 (fun _ _ => False) W5 [.string ⟨(rt x.1).toArray⟩] (fun _ _ h => h.elim) (Tryz.hL w _ hL hb5') (Reps.cons (.str _ (by have := rt_len x.1; unfold maxLen; omega)) .nil)
      refine ⟨trivial, CallsIn.mono ((callsIn_wide (n := 0)).2 c46) ?_⟩
      rintro e W6 ⟨v, rfl, hb6, hr⟩
      obtain rfl : v = .int .i64 x.1.num.sign := by cases hr; rfl
      clear hr c46
      have hF6 := isF_kept (w' := W6) hF5 fun _ _ ho _ => below_heap hb6 ho
      have hB6 := below_heap hb6 hB5
      have hb6' := hb5'.trans (hb6.mono hb5'.size)
      have cb6 : W6.cell? ⟨wr.heap.size, 0, none⟩ = some (.string ⟨(rt x.1).toArray⟩) := by rw [Lib.cell_of_heap hB6]; rfl
      have cb6' : W6.cell? ⟨wr.heap.size, 1, none⟩ = some (.string ⟨(tz (x.2 : Int)).toArray⟩) := by rw [Lib.cell_of_heap hB6]; rfl
      clear hb6 cb5 cb5' cA cB
      have hlr := rt_len (absQ x.1)
      have hra : rd (absQ x.1) ≤ 200 := by unfold absQ; split <;> (try rw [rd_neg]) <;> exact a2
      have hlz := tz_nat_len x.2
      have wrt : ∀ (lst s : List UInt8) (W : World), Lib.IsBuilderF 112 5 w.heap.size W1.heap.size (Lib.byteCells lst) W → lst.length ≤ 1000000 → s.length ≤ 1000000 → w.heap.size ≤ W.heap.size → _ := fun lst s W hF h1 h2 hsz =>
        (callsIn_wide (n := 0)).2 (Any.Builder_WriteString_k Tryz.lays166_b Tryz.bldX w.heap.size W1.heap.size (Lib.byteCells lst) ⟨s.toArray⟩ W hF (by simp only [Lib.byteCells_length, ByteArray.size, List.size_toArray]; omega) hsz)
      have hsl := sumT_len true (l.take k) (fun y hy => ⟨(h.ok y (List.mem_of_mem_take hy)).2.1, (h.ok y (List.mem_of_mem_take hy)).2.2.2.1⟩)
      rw [List.length_take] at hsl
      have hne5 : wr.heap.size ≠ W1.heap.size := fun e => by
        obtain ⟨c, hc⟩ := bld_cells hFk
        rw [Array.getElem?_eq_none (by omega)] at hc; cases hc
      gi_wp2
      all_goals try (exfalso; omega)
      · refine ⟨trivial, CallsIn.mono (wrt (sumT true (l.take k)) ([45]) W6 hF6 (by (try simp only [List.length_append, List.length_cons, List.length_nil]); omega) (by (try simp only [List.length_append, List.length_cons, List.length_nil]); omega) hb6'.size) ?_⟩
        rintro e W7 ⟨rfl, hF7, hW7, hk7⟩
        have hF7' := bld_write hF7
        have hb7' := hb6'.trans hW7
        have hB7 := hk7 _ _ hB6 (by simpa using hne5) (fun c fz hc => by simp at hc; exact absurd hc.2.1 (by decide))
        have cb7 : W7.cell? ⟨wr.heap.size, 0, none⟩ = some (.string ⟨(rt x.1).toArray⟩) := by rw [Lib.cell_of_heap hB7]; rfl
        have cb7' : W7.cell? ⟨wr.heap.size, 1, none⟩ = some (.string ⟨(tz (x.2 : Int)).toArray⟩) := by rw [Lib.cell_of_heap hB7]; rfl
        clear hF7 hW7 hk7 cb6 cb6'
        gi_wp2
        all_goals try (exfalso; omega)
        · refine ⟨trivial, CallsIn.mono (wrt (sumT true (l.take k) ++ [45]) (rt (absQ x.1)) W7 hF7' (by (try simp only [List.length_append, List.length_cons, List.length_nil]); omega) (by (try simp only [List.length_append, List.length_cons, List.length_nil]); omega) hb7'.size) ?_⟩
          rintro e W8 ⟨rfl, hF8, hW8, hk8⟩
          have hF8' := bld_write hF8
          clear hF8 hk8 wrt
          gi_wp2
          refine ⟨⟨k + 1, by omega, by congr 1 <;> omega, hb7'.trans hW8, ?_⟩, by simp only [intOf]; omega⟩
          rw [hst, termT_parts, if_pos (show x.1.num < 0 by assumption), if_pos (show k = 0 by omega), if_pos (show (tz (x.2 : Int) == [49]) = true by assumption), ← List.append_assoc]
          exact hF8'
        · rw [show ({ data := #[115, 113, 114, 116, 40] } ++ { data := (tz (x.2 : Int)).toArray } ++ { data := #[41] } : ByteArray) = { data := ([115, 113, 114, 116, 40] ++ tz (x.2 : Int) ++ [41]).toArray } by apply ByteArray.ext; simp]
          refine ⟨trivial, CallsIn.mono (wrt (sumT true (l.take k) ++ [45]) ([115, 113, 114, 116, 40] ++ tz (x.2 : Int) ++ [41]) W7 hF7' (by (try simp only [List.length_append, List.length_cons, List.length_nil]); omega) (by (try simp only [List.length_append, List.length_cons, List.length_nil]); omega) hb7'.size) ?_⟩
          rintro e W8 ⟨rfl, hF8, hW8, hk8⟩
          have hF8' := bld_write hF8
          clear hF8 hk8 wrt
          gi_wp2
          refine ⟨⟨k + 1, by omega, by congr 1 <;> omega, hb7'.trans hW8, ?_⟩, by simp only [intOf]; omega⟩
          rw [hst, termT_parts, if_pos (show x.1.num < 0 by assumption), if_pos (show k = 0 by omega), if_neg (Bool.eq_false_iff.1 (show (tz (x.2 : Int) == [49]) = false by assumption)), if_pos (show (rt (absQ x.1) == [49]) = true by assumption), ← List.append_assoc]
          exact hF8'
        · rw [show ({ data := (rt (absQ x.1)).toArray } ++ { data := #[32, 115, 113, 114, 116, 40] } ++ { data := (tz (x.2 : Int)).toArray } ++ { data := #[41] } : ByteArray) = { data := (rt (absQ x.1) ++ [32, 115, 113, 114, 116, 40] ++ tz (x.2 : Int) ++ [41]).toArray } by apply ByteArray.ext; simp]
          refine ⟨trivial, CallsIn.mono (wrt (sumT true (l.take k) ++ [45]) (rt (absQ x.1) ++ [32, 115, 113, 114, 116, 40] ++ tz (x.2 : Int) ++ [41]) W7 hF7' (by (try simp only [List.length_append, List.length_cons, List.length_nil]); omega) (by (try simp only [List.length_append, List.length_cons, List.length_nil]); omega) hb7'.size) ?_⟩
          rintro e W8 ⟨rfl, hF8, hW8, hk8⟩
          have hF8' := bld_write hF8
          clear hF8 hk8 wrt
          gi_wp2
          refine ⟨⟨k + 1, by omega, by congr 1 <;> omega, hb7'.trans hW8, ?_⟩, by simp only [intOf]; omega⟩
          rw [hst, termT_parts, if_pos (show x.1.num < 0 by assumption), if_pos (show k = 0 by omega), if_neg (Bool.eq_false_iff.1 (show (tz (x.2 : Int) == [49]) = false by assumption)), if_neg (Bool.eq_false_iff.1 (show (rt (absQ x.1) == [49]) = false by assumption)), ← List.append_assoc]
          exact hF8'
      · refine ⟨trivial, CallsIn.mono (wrt (sumT true (l.take k)) (rt (absQ x.1)) W6 hF6 (by (try simp only [List.length_append, List.length_cons, List.length_nil]); omega) (by (try simp only [List.length_append, List.length_cons, List.length_nil]); omega) hb6'.size) ?_⟩
        rintro e W8 ⟨rfl, hF8, hW8, hk8⟩
        have hF8' := bld_write hF8
        clear hF8 hk8 wrt
        gi_wp2
        refine ⟨⟨k + 1, by omega, by congr 1 <;> omega, hb6'.trans hW8, ?_⟩, by simp only [intOf]; omega⟩
        rw [hst, termT_parts, if_neg (show ¬x.1.num < 0 by omega), if_pos (show k = 0 by omega), if_pos (show (tz (x.2 : Int) == [49]) = true by assumption), List.nil_append]
        exact hF8'
      · rw [show ({ data := #[115, 113, 114, 116, 40] } ++ { data := (tz (x.2 : Int)).toArray } ++ { data := #[41] } : ByteArray) = { data := ([115, 113, 114, 116, 40] ++ tz (x.2 : Int) ++ [41]).toArray } by apply ByteArray.ext; simp]
        refine ⟨trivial, CallsIn.mono (wrt (sumT true (l.take k)) ([115, 113, 114, 116, 40] ++ tz (x.2 : Int) ++ [41]) W6 hF6 (by (try simp only [List.length_append, List.length_cons, List.length_nil]); omega) (by (try simp only [List.length_append, List.length_cons, List.length_nil]); omega) hb6'.size) ?_⟩
        rintro e W8 ⟨rfl, hF8, hW8, hk8⟩
        have hF8' := bld_write hF8
        clear hF8 hk8 wrt
        gi_wp2
        refine ⟨⟨k + 1, by omega, by congr 1 <;> omega, hb6'.trans hW8, ?_⟩, by simp only [intOf]; omega⟩
        rw [hst, termT_parts, if_neg (show ¬x.1.num < 0 by omega), if_pos (show k = 0 by omega), if_neg (Bool.eq_false_iff.1 (show (tz (x.2 : Int) == [49]) = false by assumption)), if_pos (show (rt (absQ x.1) == [49]) = true by assumption), List.nil_append]
        exact hF8'
      · rw [show ({ data := (rt (absQ x.1)).toArray } ++ { data := #[32, 115, 113, 114, 116, 40] } ++ { data := (tz (x.2 : Int)).toArray } ++ { data := #[41] } : ByteArray) = { data := (rt (absQ x.1) ++ [32, 115, 113, 114, 116, 40] ++ tz (x.2 : Int) ++ [41]).toArray } by apply ByteArray.ext; simp]
        refine ⟨trivial, CallsIn.mono (wrt (sumT true (l.take k)) (rt (absQ x.1) ++ [32, 115, 113, 114, 116, 40] ++ tz (x.2 : Int) ++ [41]) W6 hF6 (by (try simp only [List.length_append, List.length_cons, List.length_nil]); omega) (by (try simp only [List.length_append, List.length_cons, List.length_nil]); omega) hb6'.size) ?_⟩
        rintro e W8 ⟨rfl, hF8, hW8, hk8⟩
        have hF8' := bld_write hF8
        clear hF8 hk8 wrt
        gi_wp2
        refine ⟨⟨k + 1, by omega, by congr 1 <;> omega, hb6'.trans hW8, ?_⟩, by simp only [intOf]; omega⟩
        rw [hst, termT_parts, if_neg (show ¬x.1.num < 0 by omega), if_pos (show k = 0 by omega), if_neg (Bool.eq_false_iff.1 (show (tz (x.2 : Int) == [49]) = false by assumption)), if_neg (Bool.eq_false_iff.1 (show (rt (absQ x.1) == [49]) = false by assumption)), List.nil_append]
        exact hF8'
      · refine ⟨trivial, CallsIn.mono (wrt (sumT true (l.take k)) ([32, 45, 32]) W6 hF6 (by (try simp only [List.length_append, List.length_cons, List.length_nil]); omega) (by (try simp only [List.length_append, List.length_cons, List.length_nil]); omega) hb6'.size) ?_⟩
        rintro e W7 ⟨rfl, hF7, hW7, hk7⟩
        have hF7' := bld_write hF7
        have hb7' := hb6'.trans hW7
        have hB7 := hk7 _ _ hB6 (by simpa using hne5) (fun c fz hc => by simp at hc; exact absurd hc.2.1 (by decide))
        have cb7 : W7.cell? ⟨wr.heap.size, 0, none⟩ = some (.string ⟨(rt x.1).toArray⟩) := by rw [Lib.cell_of_heap hB7]; rfl
        have cb7' : W7.cell? ⟨wr.heap.size, 1, none⟩ = some (.string ⟨(tz (x.2 : Int)).toArray⟩) := by rw [Lib.cell_of_heap hB7]; rfl
        clear hF7 hW7 hk7 cb6 cb6'
        gi_wp2
        all_goals try (exfalso; omega)
        · refine ⟨trivial, CallsIn.mono (wrt (sumT true (l.take k) ++ [32, 45, 32]) (rt (absQ x.1)) W7 hF7' (by (try simp only [List.length_append, List.length_cons, List.length_nil]); omega) (by (try simp only [List.length_append, List.length_cons, List.length_nil]); omega) hb7'.size) ?_⟩
          rintro e W8 ⟨rfl, hF8, hW8, hk8⟩
          have hF8' := bld_write hF8
          clear hF8 hk8 wrt
          gi_wp2
          refine ⟨⟨k + 1, by omega, by congr 1 <;> omega, hb7'.trans hW8, ?_⟩, by simp only [intOf]; omega⟩
          rw [hst, termT_parts, if_pos (show x.1.num < 0 by assumption), if_neg (show ¬k = 0 by omega), if_pos (show (tz (x.2 : Int) == [49]) = true by assumption), ← List.append_assoc]
          exact hF8'
        · rw [show ({ data := #[115, 113, 114, 116, 40] } ++ { data := (tz (x.2 : Int)).toArray } ++ { data := #[41] } : ByteArray) = { data := ([115, 113, 114, 116, 40] ++ tz (x.2 : Int) ++ [41]).toArray } by apply ByteArray.ext; simp]
          refine ⟨trivial, CallsIn.mono (wrt (sumT true (l.take k) ++ [32, 45, 32]) ([115, 113, 114, 116, 40] ++ tz (x.2 : Int) ++ [41]) W7 hF7' (by (try simp only [List.length_append, List.length_cons, List.length_nil]); omega) (by (try simp only [List.length_append, List.length_cons, List.length_nil]); omega) hb7'.size) ?_⟩
          rintro e W8 ⟨rfl, hF8, hW8, hk8⟩
          have hF8' := bld_write hF8
          clear hF8 hk8 wrt
          gi_wp2
          refine ⟨⟨k + 1, by omega, by congr 1 <;> omega, hb7'.trans hW8, ?_⟩, by simp only [intOf]; omega⟩
          rw [hst, termT_parts, if_pos (show x.1.num < 0 by assumption), if_neg (show ¬k = 0 by omega), if_neg (Bool.eq_false_iff.1 (show (tz (x.2 : Int) == [49]) = false by assumption)), if_pos (show (rt (absQ x.1) == [49]) = true by assumption), ← List.append_assoc]
          exact hF8'
        · rw [show ({ data := (rt (absQ x.1)).toArray } ++ { data := #[32, 115, 113, 114, 116, 40] } ++ { data := (tz (x.2 : Int)).toArray } ++ { data := #[41] } : ByteArray) = { data := (rt (absQ x.1) ++ [32, 115, 113, 114, 116, 40] ++ tz (x.2 : Int) ++ [41]).toArray } by apply ByteArray.ext; simp]
          refine ⟨trivial, CallsIn.mono (wrt (sumT true (l.take k) ++ [32, 45, 32]) (rt (absQ x.1) ++ [32, 115, 113, 114, 116, 40] ++ tz (x.2 : Int) ++ [41]) W7 hF7' (by (try simp only [List.length_append, List.length_cons, List.length_nil]); omega) (by (try simp only [List.length_append, List.length_cons, List.length_nil]); omega) hb7'.size) ?_⟩
          rintro e W8 ⟨rfl, hF8, hW8, hk8⟩
          have hF8' := bld_write hF8
          clear hF8 hk8 wrt
          gi_wp2
          refine ⟨⟨k + 1, by omega, by congr 1 <;> omega, hb7'.trans hW8, ?_⟩, by simp only [intOf]; omega⟩
          rw [hst, termT_parts, if_pos (show x.1.num < 0 by assumption), if_neg (show ¬k = 0 by omega), if_neg (Bool.eq_false_iff.1 (show (tz (x.2 : Int) == [49]) = false by assumption)), if_neg (Bool.eq_false_iff.1 (show (rt (absQ x.1) == [49]) = false by assumption)), ← List.append_assoc]
          exact hF8'
      · refine ⟨trivial, CallsIn.mono (wrt (sumT true (l.take k)) ([32, 43, 32]) W6 hF6 (by (try simp only [List.length_append, List.length_cons, List.length_nil]); omega) (by (try simp only [List.length_append, List.length_cons, List.length_nil]); omega) hb6'.size) ?_⟩
        rintro e W7 ⟨rfl, hF7, hW7, hk7⟩
        have hF7' := bld_write hF7
        have hb7' := hb6'.trans hW7
        have hB7 := hk7 _ _ hB6 (by simpa using hne5) (fun c fz hc => by simp at hc; exact absurd hc.2.1 (by decide))
        have cb7 : W7.cell? ⟨wr.heap.size, 0, none⟩ = some (.string ⟨(rt x.1).toArray⟩) := by rw [Lib.cell_of_heap hB7]; rfl
        have cb7' : W7.cell? ⟨wr.heap.size, 1, none⟩ = some (.string ⟨(tz (x.2 : Int)).toArray⟩) := by rw [Lib.cell_of_heap hB7]; rfl
        clear hF7 hW7 hk7 cb6 cb6'
        gi_wp2
        all_goals try (exfalso; omega)
        · refine ⟨trivial, CallsIn.mono (wrt (sumT true (l.take k) ++ [32, 43, 32]) (rt (absQ x.1)) W7 hF7' (by (try simp only [List.length_append, List.length_cons, List.length_nil]); omega) (by (try simp only [List.length_append, List.length_cons, List.length_nil]); omega) hb7'.size) ?_⟩
          rintro e W8 ⟨rfl, hF8, hW8, hk8⟩
          have hF8' := bld_write hF8
          clear hF8 hk8 wrt
          gi_wp2
          refine ⟨⟨k + 1, by omega, by congr 1 <;> omega, hb7'.trans hW8, ?_⟩, by simp only [intOf]; omega⟩
          rw [hst, termT_parts, if_neg (show ¬x.1.num < 0 by omega), if_neg (show ¬k = 0 by omega), if_pos (show (tz (x.2 : Int) == [49]) = true by assumption), ← List.append_assoc]
          exact hF8'
        · rw [show ({ data := #[115, 113, 114, 116, 40] } ++ { data := (tz (x.2 : Int)).toArray } ++ { data := #[41] } : ByteArray) = { data := ([115, 113, 114, 116, 40] ++ tz (x.2 : Int) ++ [41]).toArray } by apply ByteArray.ext; simp]
          refine ⟨trivial, CallsIn.mono (wrt (sumT true (l.take k) ++ [32, 43, 32]) ([115, 113, 114, 116, 40] ++ tz (x.2 : Int) ++ [41]) W7 hF7' (by (try simp only [List.length_append, List.length_cons, List.length_nil]); omega) (by (try simp only [List.length_append, List.length_cons, List.length_nil]); omega) hb7'.size) ?_⟩
          rintro e W8 ⟨rfl, hF8, hW8, hk8⟩
          have hF8' := bld_write hF8
          clear hF8 hk8 wrt
          gi_wp2
          refine ⟨⟨k + 1, by omega, by congr 1 <;> omega, hb7'.trans hW8, ?_⟩, by simp only [intOf]; omega⟩
          rw [hst, termT_parts, if_neg (show ¬x.1.num < 0 by omega), if_neg (show ¬k = 0 by omega), if_neg (Bool.eq_false_iff.1 (show (tz (x.2 : Int) == [49]) = false by assumption)), if_pos (show (rt (absQ x.1) == [49]) = true by assumption), ← List.append_assoc]
          exact hF8'
        · rw [show ({ data := (rt (absQ x.1)).toArray } ++ { data := #[32, 115, 113, 114, 116, 40] } ++ { data := (tz (x.2 : Int)).toArray } ++ { data := #[41] } : ByteArray) = { data := (rt (absQ x.1) ++ [32, 115, 113, 114, 116, 40] ++ tz (x.2 : Int) ++ [41]).toArray } by apply ByteArray.ext; simp]
          refine ⟨trivial, CallsIn.mono (wrt (sumT true (l.take k) ++ [32, 43, 32]) (rt (absQ x.1) ++ [32, 115, 113, 114, 116, 40] ++ tz (x.2 : Int) ++ [41]) W7 hF7' (by (try simp only [List.length_append, List.length_cons, List.length_nil]); omega) (by (try simp only [List.length_append, List.length_cons, List.length_nil]); omega) hb7'.size) ?_⟩
          rintro e W8 ⟨rfl, hF8, hW8, hk8⟩
          have hF8' := bld_write hF8
          clear hF8 hk8 wrt
          gi_wp2
          refine ⟨⟨k + 1, by omega, by congr 1 <;> omega, hb7'.trans hW8, ?_⟩, by simp only [intOf]; omega⟩
          rw [hst, termT_parts, if_neg (show ¬x.1.num < 0 by omega), if_neg (show ¬k = 0 by omega), if_neg (Bool.eq_false_iff.1 (show (tz (x.2 : Int) == [49]) = false by assumption)), if_neg (Bool.eq_false_iff.1 (show (rt (absQ x.1) == [49]) = false by assumption)), ← List.append_assoc]
          exact hF8'
    · obtain rfl : k = l.length := by omega
      gi_wp2
      rw [List.take_length] at hFk
      have hsl := sumT_len true l (fun y hy => ⟨(h.ok y hy).2.1, (h.ok y hy).2.2.2.1⟩)
      refine ⟨trivial, CallsIn.mono ((callsIn_wide (n := 0)).2 (Any.Builder_String_k Tryz.lays169_b Tryz.bldX w.heap.size W1.heap.size (sumT true l) wr hFk (sumT_ne true hne))) ?_⟩
      rintro e W9 ⟨rfl, hF9, hW9, hk9⟩
      gi_wp2
      refine ⟨.tuple #[.string ⟨(sumT true l).toArray⟩, .int .i64 0], by simp [results, Sem.run_pure, go_sem], _, rfl, hbk.trans hW9, ?_⟩
      refine .tup [.str (sumT true l), .int .i64 0] [.string ⟨(sumT true l).toArray⟩, .int .i64 0] rfl fun i d v hd hv => ?_
      match i with
      | 0 => simp at hd hv; subst hd; subst hv; exact .str _ (by unfold maxLen; omega)
      | 1 => simp at hd hv; subst hd; subst hv; exact .int _ _
      | i + 2 => simp at hd
end Go.Proofs

/-
  SURD: known(). Own work.
-/
namespace Go.Proofs
open Go Go.Pi Go.RowKit Go.Ar

theorem kC_text : sumT true kC = [49, 47, 50, 32, 45, 32, 115, 113, 114, 116, 40, 53, 41] := by
  have e1 : absQ (-1) = 1 := by unfold absQ; rw [if_pos (by decide)]; decide
  have e2 : absQ (mkRat 1 2) = mkRat 1 2 := by unfold absQ; rw [if_neg (by decide)]
  have e3 : termT true (mkRat 1 2, 1) = [49, 47, 50] := by
    unfold termT
    rw [if_neg (by decide), if_pos rfl, e2, txt_half]; rfl
  have e4 : termT false (-1, 5) = [32, 45, 32, 115, 113, 114, 116, 40, 53, 41] := by
    unfold termT
    rw [if_pos (by decide), if_neg (by decide), e1, if_pos rfl, dd_tz, show dd 5 = [53] from dd_small (by decide)]; rfl
  show termT true (mkRat 1 2, 1) ++ (termT false (-1, 5) ++ []) = _
  rw [e3, e4]; rfl
theorem Tryz.known : Con Tryz.prog Tryz.L 13 [] (.bool true) := by
  have h := Tryz.text kC kC_ok (by decide)
  rw [kC_text] at h
  exact Tryz.known' h
end Go.Proofs

/-
  SURD: klipperef03: Plus, Times, Alike, insert, Join. Own work.
-/
namespace Go.Proofs
open Go Go.Pi Go.RowKit Go.Ar

theorem Tryz.ytimes (a b : Rat) (h : rd a + rd b ≤ 19000) : Con Tryz.prog Tryz.L 42 [.str (rt a), .str (rt b)] (.str (rt (a * b))) := by
  have a1 := rd_num a; have a2 : dl (a.den : Int) ≤ rd a := rd_den a
  have b1 := rd_num b; have b2 : dl (b.den : Int) ≤ rd b := rd_den b
  have l1 := rt_len a; have l2 := rt_len b
  obtain ⟨x1, y1, p1, e1⟩ := Tryz.yparts (rt a) (by omega)
  obtain ⟨x2, y2, p2, e2⟩ := Tryz.yparts (rt b) (by omega)
  obtain ⟨rfl, rfl⟩ := e1 a rfl
  obtain ⟨rfl, rfl⟩ := e2 b rfl
  have d1 := dl_mul a.num b.num
  have d3 := dl_mul a.den b.den
  have m1 := Tryz.xmul a.num b.num (by omega) (by omega)
  have m3 := Tryz.xmul a.den b.den (by omega) (by omega)
  have mk := Tryz.ymake (a.num * b.num) (a.den * b.den) (Nat.mul_pos a.den_pos b.den_pos) (by omega) (by rw [Int.natCast_mul]; omega)
  rw [mul_mk, Int.natCast_mul] at mk
  refine rule42 Tryz.hL rfl rfl rfl ?_
  (simp only [pc42, rs42, oU, oC]; refine ev ?_; try with_reducible exact trivial)
  refine callF_of p1 ?_
  (refine ev ?_; try with_reducible exact trivial)
  refine callF_of p2 ?_
  (refine ev ?_; try with_reducible exact trivial)
  refine callF_of m1 ?_
  (refine ev ?_; try with_reducible exact trivial)
  refine callF_of m3 ?_
  (refine ev ?_; try with_reducible exact trivial)
  refine callF_of mk ?_
  (refine ev ?_; try with_reducible exact trivial)

/-- a term put into its place -/
def insM (x : Tm) : List Tm → List Tm
  | [] => [x]
  | y :: l => if x.2 < y.2 then x :: y :: l else y :: insM x l
def isIn (x : Tm) (l : List Tm) : Bool := l.any fun y => decide (x.2 < y.2)
theorem insM_len (x : Tm) : ∀ l, (insM x l).length = l.length + 1
  | [] => rfl
  | y :: l => by unfold insM; split <;> simp [insM_len x l]
theorem tms_snoc (l : List Tm) (x : Tm) : tms (l ++ [x]) = tms l ++ tD x := by simp [rows]
theorem take_snoc {α : Type} {l : List α} {k : Nat} {x : α} (h : l[k]? = some x) : l.take (k + 1) = l.take k ++ [x] := by rw [List.take_add_one, h]; rfl

end Go.Proofs

/-
  SURD: klipperef03.Join. Own work.
-/
namespace Go.Proofs
open Go Go.Pi Go.RowKit Go.Ar

/-- the least radicand that is alike, the sum of the factors, the sum of surds -/
def leastM (all : List Tm) (r : Nat) : Nat := all.foldl (fun m x => if isq (x.2 * r) ∧ x.2 < m then x.2 else m) r
def sumM (all : List Tm) (m : Nat) : Rat := all.foldl (fun s x => if isq (x.2 * m) then s + x.1 * mkRat (nrt (x.2 * m)) m else s) 0
def freshIn (pre : List Tm) (r : Nat) : Bool := pre.all fun y => !decide (isq (y.2 * r))
def joinS (all pre out : List Tm) (x : Tm) : List Tm := if freshIn pre x.2 = false then out else if sumM all (leastM all x.2) = 0 then out else insM (sumM all (leastM all x.2), leastM all x.2) out
def joinT (all : List Tm) : Nat → List Tm
  | 0 => []
  | i + 1 => match all[i]? with
    | some x => joinS all (all.take i) (joinT all i) x
    | none => joinT all i
def joinL (all : List Tm) : List Tm := joinT all all.length
def mulT (k : Rat) (b : List Tm) : List Tm := b.map fun x => (x.1 * k, x.2)

theorem tms_drop {l : List Tm} {k : Nat} {x : Tm} (h : l[k]? = some x) : ∃ r, List.drop (k * 2) (tms l) = .str (rt x.1) :: .str (tz (x.2 : Int)) :: r ∧ List.drop (k * 2 + 1) (tms l) = .str (tz (x.2 : Int)) :: r := by
  obtain ⟨r, e⟩ := rows_at tD_len h
  exact ⟨r, e, by rw [← List.drop_drop, e]; rfl⟩
theorem sumM_snoc (l : List Tm) (x : Tm) (m : Nat) : sumM (l ++ [x]) m = if isq (x.2 * m) then sumM l m + x.1 * mkRat (nrt (x.2 * m)) m else sumM l m := by unfold sumM; rw [List.foldl_append]; rfl
/-- a term of a list that is joined -/
def tBd (x : Tm) : Prop := rd x.1 ≤ 450 ∧ 0 < x.2 ∧ dl (x.2 : Int) ≤ 200
theorem dl_nmul (m n : Nat) : dl ((m * n : Nat) : Int) ≤ dl (m : Int) + dl (n : Int) := by rw [Int.natCast_mul]; exact dl_mul m n
theorem rd_root {r m : Nat} (hm : 0 < m) (h1 : dl (r : Int) ≤ 200) (h2 : dl (m : Int) ≤ 200) : rd (mkRat (nrt (r * m)) m) ≤ 400 := by
  refine rd_mk (by omega) ?_ (by have := dl_nat m; omega)
  have h3 := dl_nrt (r * m)
  have h4 := dl_nmul r m
  omega
theorem joinT_len (all : List Tm) : ∀ i, (joinT all i).length ≤ i
  | 0 => Nat.le_refl _
  | i + 1 => by
    have ih := joinT_len all i
    unfold joinT
    split
    · unfold joinS
      split
      · omega
      · split
        · omega
        · rw [insM_len]; omega
    · omega
theorem mem_insM {x y : Tm} : ∀ {l : List Tm}, y ∈ insM x l ↔ y = x ∨ y ∈ l
  | [] => by simp [insM]
  | z :: l => by
    unfold insM
    split
    · simp
    · simp only [List.mem_cons, mem_insM (l := l)]
      exact ⟨fun h => h.elim (fun h => .inr (.inl h)) (fun h => h.elim .inl (fun h => .inr (.inr h))), fun h => h.elim (fun h => .inr (.inl h)) (fun h => h.elim .inl (fun h => .inr (.inr h)))⟩
theorem joinT_some {all : List Tm} {i : Nat} {x : Tm} (h : all[i]? = some x) : joinT all (i + 1) = joinS all (all.take i) (joinT all i) x := by
  show (match all[i]? with | some x => joinS all (all.take i) (joinT all i) x | none => joinT all i) = _
  rw [h]
/-- what a slot holds -/
def outD (e : Nat) (l : List Tm) : D := if l = [] then .own true e 0 [] else sg l
end Go.Proofs

/-
  SURD: what a joined list is, for the ten radicands of the law. Own work.
-/
namespace Go.Proofs
open Go Go.Pi Go.RowKit Go.Ar

/-- a radicand as the base times a square -/
def bs : Nat → Nat × Nat
  | 8 => (2, 2)
  | 50 => (2, 5)
  | 12 => (3, 2)
  | n => (n, 1)
abbrev R10 : List Nat := [1, 2, 3, 8, 6, 12, 10, 50, 30, 1009]
def sqB (n : Nat) : Bool := (List.range 1100).any fun k => k * k == n
theorem isq_sqB {n : Nat} (h : n < 1100 * 1100) : isq n ↔ sqB n = true := by
  unfold sqB
  rw [List.any_eq_true]
  constructor
  · intro hq
    have hr : nrt n < 1100 := by
      rcases Nat.lt_or_ge (nrt n) 1100 with h1 | h1
      · exact h1
      · have := Nat.mul_le_mul h1 h1
        unfold isq at hq; omega
    exact ⟨nrt n, List.mem_range.2 hr, by simpa [isq] using hq⟩
  · rintro ⟨k, _, hk⟩
    have : k * k = n := by simpa using hk
    rw [← this]; exact isq_sq k
theorem r10_form : ∀ r ∈ R10, r = (bs r).1 * (bs r).2 * (bs r).2 ∧ 0 < (bs r).1 ∧ 0 < (bs r).2 ∧ (bs r).2 ≤ 5 ∧ r ≤ 1009 ∧ ((bs r).1 = 1 → r = 1) := by decide
theorem r10_sq0 : (R10.all fun a => R10.all fun b => sqB (a * b) == decide ((bs a).1 = (bs b).1)) = true := by decide +kernel
theorem r10_sq {a b : Nat} (ha : a ∈ R10) (hb : b ∈ R10) : isq (a * b) ↔ (bs a).1 = (bs b).1 := by
  have h1 := (r10_form a ha).2.2.2.2.1
  have h2 := (r10_form b hb).2.2.2.2.1
  have h3 := Nat.mul_le_mul h1 h2
  rw [isq_sqB (by omega)]
  have h := List.all_eq_true.1 (List.all_eq_true.1 r10_sq0 a ha) b hb
  rw [beq_iff_eq.1 h]; simp
theorem r10_nrt {a b : Nat} (ha : a ∈ R10) (hb : b ∈ R10) (h : (bs a).1 = (bs b).1) : nrt (a * b) = (bs a).1 * (bs a).2 * (bs b).2 := by
  have e1 := (r10_form a ha).1
  have e2 := (r10_form b hb).1
  rw [← h] at e2
  have : a * b = ((bs a).1 * (bs a).2 * (bs b).2) * ((bs a).1 * (bs a).2 * (bs b).2) := by
    generalize (bs a).1 = p at *
    generalize (bs a).2 = q at *
    generalize (bs b).2 = r at *
    rw [e1, e2]; grind
  rw [this, nrt_sq]
theorem nat_ne {n : Nat} (h : 0 < n) : (n : Rat) ≠ 0 := fun e => by
  have : (n : Rat) = ((0 : Nat) : Rat) := by rw [e]; rfl
  have := Rat.natCast_inj.1 this; omega
theorem r10_root {a b : Nat} (ha : a ∈ R10) (hb : b ∈ R10) (h : (bs a).1 = (bs b).1) : mkRat (nrt (a * b)) b * ((bs b).2 : Rat) = ((bs a).2 : Rat) := by
  obtain ⟨e2, p1, p2, _⟩ := r10_form b hb
  rw [r10_nrt ha hb h, h, Rat.mkRat_eq_div]
  have hb' : (b : Rat) = ((bs b).1 : Rat) * ((bs b).2 : Rat) * ((bs b).2 : Rat) := by
    conv => lhs; rw [e2]
    rw [Rat.natCast_mul, Rat.natCast_mul]
  rw [hb']
  have n1 : ((bs b).1 : Rat) ≠ 0 := nat_ne p1
  have n2 : ((bs b).2 : Rat) ≠ 0 := nat_ne p2
  push_cast
  generalize ((bs b).1 : Rat) = p at *
  generalize ((bs b).2 : Rat) = q at *
  generalize ((bs a).2 : Rat) = r at *
  grind

/-- the sum of a list in one class, in units of the root of the base -/
def vlB (b : Nat) : List Tm → Rat
  | [] => 0
  | x :: l => (if (bs x.2).1 = b then x.1 * ((bs x.2).2 : Rat) else 0) + vlB b l
theorem vlB_app (b : Nat) : ∀ (l m : List Tm), vlB b (l ++ m) = vlB b l + vlB b m
  | [], m => by rw [List.nil_append]; show _ = 0 + _; rw [Rat.zero_add]
  | x :: l, m => by
    show _ + vlB b (l ++ m) = _ + vlB b l + vlB b m
    rw [vlB_app b l m, Rat.add_assoc]
def inR (l : List Tm) : Prop := ∀ x ∈ l, x.2 ∈ R10
theorem sumM_val {m : Nat} (hm : m ∈ R10) : ∀ (n : Nat) (l : List Tm), l.length = n → inR l → sumM l m * ((bs m).2 : Rat) = vlB (bs m).1 l
  | 0, l, hl, _ => by
    obtain rfl : l = [] := List.length_eq_zero_iff.1 hl
    show 0 * _ = 0
    rw [Rat.zero_mul]
  | n + 1, l, hl, h => by
    obtain ⟨l', x, rfl⟩ : ∃ l' x, l = l' ++ [x] := ⟨l.dropLast, l.getLast (by intro e; rw [e] at hl; simp at hl), (List.dropLast_concat_getLast _).symm⟩
    have hx := h x (List.mem_append_right _ (List.mem_singleton.2 rfl))
    have ih := sumM_val hm n l' (by simpa using hl) fun y hy => h y (List.mem_append_left _ hy)
    rw [sumM_snoc, vlB_app, ← ih]
    show _ = _ + ((if (bs x.2).1 = (bs m).1 then x.1 * ((bs x.2).2 : Rat) else 0) + 0)
    by_cases hq : (bs x.2).1 = (bs m).1
    · rw [if_pos hq, if_pos ((r10_sq hx hm).2 hq), ← r10_root hx hm hq]
      grind
    · rw [if_neg hq, if_neg (fun h => hq ((r10_sq hx hm).1 h)), Rat.add_zero, Rat.add_zero]
theorem leastM_mem {all : List Tm} {r : Nat} (h : inR all) (hr : r ∈ R10) : leastM all r ∈ R10 ∧ (bs (leastM all r)).1 = (bs r).1 := by
  unfold leastM
  generalize hf : (fun (m : Nat) (x : Tm) => if isq (x.2 * r) ∧ x.2 < m then x.2 else m) = f
  have key : ∀ (l : List Tm) (m : Nat), inR l → (m ∈ R10 ∧ (bs m).1 = (bs r).1) → ((l.foldl f m) ∈ R10 ∧ (bs (l.foldl f m)).1 = (bs r).1) := by
    intro l
    induction l with
    | nil => intro m _ hm; exact hm
    | cons x l ih =>
      intro m hl hm
      refine ih _ (fun y hy => hl y (List.mem_cons_of_mem _ hy)) ?_
      rw [← hf]
      show (if isq (x.2 * r) ∧ x.2 < m then x.2 else m) ∈ R10 ∧ (bs (if isq (x.2 * r) ∧ x.2 < m then x.2 else m)).1 = _
      have hx := hl x (List.mem_cons_self ..)
      split
      · rename_i h; exact ⟨hx, (r10_sq hx hr).1 h.1⟩
      · exact hm
  exact key all r h ⟨hr, rfl⟩
/-- a list in order, each class once, no factor zero -/
structure Can (l : List Tm) : Prop where
  ne : ∀ x ∈ l, x.1 ≠ 0
  rad : inR l
  lt : l.Pairwise fun x y => x.2 < y.2
  cls : l.Pairwise fun x y => (bs x.2).1 ≠ (bs y.2).1
theorem vlB_none {b : Nat} : ∀ {l : List Tm}, (∀ x ∈ l, (bs x.2).1 ≠ b) → vlB b l = 0
  | [], _ => rfl
  | x :: l, h => by
    show (if _ then _ else 0) + vlB b l = 0
    rw [if_neg (h x (List.mem_cons_self ..)), vlB_none fun y hy => h y (List.mem_cons_of_mem _ hy), Rat.add_zero]
theorem Can.val {l : List Tm} (h : Can l) {x : Tm} (hx : x ∈ l) : x.1 * ((bs x.2).2 : Rat) = vlB (bs x.2).1 l := by
  have hc := h.cls
  clear h
  induction l with
  | nil => cases hx
  | cons y l ih =>
    obtain ⟨h1, h2⟩ := List.pairwise_cons.1 hc
    show _ = (if _ then _ else 0) + vlB _ l
    rcases List.mem_cons.1 hx with rfl | hx
    · rw [if_pos rfl, vlB_none (fun z hz => (h1 z hz).symm), Rat.add_zero]
    · rw [if_neg (h1 x hx), Rat.zero_add, ih hx h2]
theorem vlB_insM (b : Nat) (x : Tm) : ∀ l : List Tm, vlB b (insM x l) = (if (bs x.2).1 = b then x.1 * ((bs x.2).2 : Rat) else 0) + vlB b l
  | [] => rfl
  | y :: l => by
    unfold insM
    split
    · rfl
    · show _ + vlB b (insM x l) = _ + (_ + vlB b l)
      rw [vlB_insM b x l]; grind
theorem Can.ins {l : List Tm} (h : Can l) {x : Tm} (h0 : x.1 ≠ 0) (hr : x.2 ∈ R10) (hn : ∀ y ∈ l, (bs y.2).1 ≠ (bs x.2).1) : Can (insM x l) := by
  refine ⟨?_, ?_, ?_, ?_⟩
  · intro y hy
    rcases mem_insM.1 hy with rfl | hy
    · exact h0
    · exact h.ne y hy
  · intro y hy
    rcases mem_insM.1 hy with rfl | hy
    · exact hr
    · exact h.rad y hy
  · have hl := h.lt
    clear h
    induction l with
    | nil => simp [insM]
    | cons y l ih =>
      obtain ⟨h1, h2⟩ := List.pairwise_cons.1 hl
      have hyx : y.2 ≠ x.2 := fun e => hn y (List.mem_cons_self ..) (by rw [e])
      unfold insM
      split
      · rename_i hlt
        refine List.pairwise_cons.2 ⟨fun z hz => ?_, hl⟩
        rcases List.mem_cons.1 hz with rfl | hz
        · exact hlt
        · have := h1 z hz; omega
      · refine List.pairwise_cons.2 ⟨fun z hz => ?_, ih (fun z hz => hn z (List.mem_cons_of_mem _ hz)) h2⟩
        rcases mem_insM.1 hz with rfl | hz
        · omega
        · exact h1 z hz
  · have hl := h.cls
    clear h
    induction l with
    | nil => simp [insM]
    | cons y l ih =>
      obtain ⟨h1, h2⟩ := List.pairwise_cons.1 hl
      have hyx := hn y (List.mem_cons_self ..)
      unfold insM
      split
      · refine List.pairwise_cons.2 ⟨fun z hz => ?_, hl⟩
        rcases List.mem_cons.1 hz with rfl | hz
        · exact hyx.symm
        · exact (hn z (List.mem_cons_of_mem _ hz)).symm
      · refine List.pairwise_cons.2 ⟨fun z hz => ?_, ih (fun z hz => hn z (List.mem_cons_of_mem _ hz)) h2⟩
        rcases mem_insM.1 hz with rfl | hz
        · exact hyx
        · exact h1 z hz
/-- what has been joined so far -/
theorem joinT_can {all : List Tm} (h : inR all) : ∀ i, i ≤ all.length → Can (joinT all i) ∧ (∀ y ∈ joinT all i, ∃ x ∈ all.take i, (bs x.2).1 = (bs y.2).1) ∧
    ∀ b, vlB b (joinT all i) = if (∃ x ∈ all.take i, (bs x.2).1 = b) then vlB b all else 0
  | 0, _ => ⟨⟨fun x hx => (by cases hx), fun x hx => (by cases hx), .nil, .nil⟩, fun y hy => (by cases hy), fun b => (by rw [if_neg (by simp)]; rfl)⟩
  | i + 1, hi => by
    obtain ⟨c, h1, h2⟩ := joinT_can h i (by omega)
    have hx : all[i]? = some (all[i]'(by omega)) := List.getElem?_eq_getElem (by omega)
    generalize all[i]'(by omega) = x at hx
    have hxr := h x (List.mem_of_getElem? hx)
    rw [joinT_some hx, take_snoc hx]
    obtain ⟨m1, m2⟩ := leastM_mem h hxr
    have hs := sumM_val m1 all.length all rfl h
    rw [m2] at hs
    have hfr : freshIn (all.take i) x.2 = true ↔ ∀ y ∈ all.take i, (bs y.2).1 ≠ (bs x.2).1 := by
      unfold freshIn
      rw [List.all_eq_true]
      refine forall_congr' fun y => forall_congr' fun hy => ?_
      have := r10_sq (h y (List.mem_of_mem_take hy)) hxr
      simp [this]
    unfold joinS
    by_cases hf : freshIn (all.take i) x.2 = false
    · rw [if_pos hf]
      have hex : ∃ y ∈ all.take i, (bs y.2).1 = (bs x.2).1 := by
        refine Classical.byContradiction fun hn => ?_
        have : freshIn (all.take i) x.2 = true := hfr.2 fun y hy e => hn ⟨y, hy, e⟩
        rw [hf] at this; cases this
      refine ⟨c, fun y hy => ?_, fun b => ?_⟩
      · obtain ⟨z, hz, e⟩ := h1 y hy
        exact ⟨z, List.mem_append_left _ hz, e⟩
      · rw [h2 b]
        by_cases hb : (bs x.2).1 = b
        · subst hb
          rw [if_pos hex, if_pos ⟨x, List.mem_append_right _ (List.mem_singleton.2 rfl), rfl⟩]
        · congr 1
          refine propext ⟨fun ⟨z, hz, e⟩ => ⟨z, List.mem_append_left _ hz, e⟩, fun ⟨z, hz, e⟩ => ?_⟩
          rcases List.mem_append.1 hz with hz | hz
          · exact ⟨z, hz, e⟩
          · rw [List.mem_singleton.1 hz] at e; exact absurd e hb
    · rw [if_neg hf]
      have hft : ∀ y ∈ all.take i, (bs y.2).1 ≠ (bs x.2).1 := hfr.1 (by cases hq : freshIn (all.take i) x.2 <;> simp_all)
      have hn : ∀ y ∈ joinT all i, (bs y.2).1 ≠ (bs (leastM all x.2)).1 := fun y hy e => by
        obtain ⟨z, hz, e2⟩ := h1 y hy
        exact hft z hz (by rw [e2, e, m2])
      have hval : ∀ b, (bs x.2).1 ≠ b → ((∃ z ∈ all.take i, (bs z.2).1 = b) = ∃ z ∈ all.take i ++ [x], (bs z.2).1 = b) := fun b hb =>
        propext ⟨fun ⟨z, hz, e⟩ => ⟨z, List.mem_append_left _ hz, e⟩, fun ⟨z, hz, e⟩ => by
          rcases List.mem_append.1 hz with hz | hz
          · exact ⟨z, hz, e⟩
          · rw [List.mem_singleton.1 hz] at e; exact absurd e hb⟩
      have hold : vlB (bs x.2).1 (joinT all i) = 0 := by rw [h2, if_neg (fun ⟨z, hz, e⟩ => hft z hz e)]
      by_cases h0 : sumM all (leastM all x.2) = 0
      · rw [if_pos h0]
        rw [h0, Rat.zero_mul] at hs
        refine ⟨c, fun y hy => ?_, fun b => ?_⟩
        · obtain ⟨z, hz, e⟩ := h1 y hy
          exact ⟨z, List.mem_append_left _ hz, e⟩
        · by_cases hb : (bs x.2).1 = b
          · subst hb
            rw [hold, if_pos ⟨x, List.mem_append_right _ (List.mem_singleton.2 rfl), rfl⟩, ← hs]
          · rw [h2 b]; congr 1; exact hval b hb
      · rw [if_neg h0]
        refine ⟨c.ins h0 m1 hn, fun y hy => ?_, fun b => ?_⟩
        · rcases mem_insM.1 hy with rfl | hy
          · exact ⟨x, List.mem_append_right _ (List.mem_singleton.2 rfl), m2.symm⟩
          · obtain ⟨z, hz, e⟩ := h1 y hy
            exact ⟨z, List.mem_append_left _ hz, e⟩
        · rw [vlB_insM]
          show (if (bs (leastM all x.2)).1 = b then sumM all (leastM all x.2) * ((bs (leastM all x.2)).2 : Rat) else 0) + _ = _
          rw [m2]
          by_cases hb : (bs x.2).1 = b
          · subst hb
            rw [if_pos rfl, hs, hold, Rat.add_zero, if_pos ⟨x, List.mem_append_right _ (List.mem_singleton.2 rfl), rfl⟩]
          · rw [if_neg hb, Rat.zero_add, h2 b]; congr 1; exact hval b hb
theorem joinL_can {all : List Tm} (h : inR all) : Can (joinL all) ∧ ∀ b, vlB b (joinL all) = vlB b all := by
  obtain ⟨c, _, h2⟩ := joinT_can h all.length (Nat.le_refl _)
  refine ⟨c, fun b => ?_⟩
  unfold joinL
  rw [h2 b, List.take_length]
  split
  · rfl
  · rename_i hn
    exact (vlB_none fun x hx e => hn ⟨x, hx, e⟩).symm
end Go.Proofs

/-
  SURD: the law's Make. Own work.
-/
namespace Go.Proofs
open Go Go.Pi Go.RowKit Go.Ar

/-- a part: numerator, denominator, root -/
abbrev Pa := Int × Int × Int
def paD (p : Pa) : List D := [.int .i8 p.1, .int .u8 p.2.1, .int .u8 p.2.2]
abbrev pas (l : List Pa) : List D := rows paD l
def okP (p : Pa) : Prop := -128 ≤ p.1 ∧ p.1 ≤ 127 ∧ 0 ≤ p.2.1 ∧ p.2.1 ≤ 255 ∧ 0 ≤ p.2.2 ∧ p.2.2 ≤ 255
def denP (p : Pa) : Nat := [1, 2, 3, 4, 6, 12].getD (p.2.1.tmod 6).toNat 1
def radP (p : Pa) : Nat := R10.getD (p.2.2.tmod 10).toNat 1
def stepP (out : List Tm) (p : Pa) : List Tm := if p.1.tmod 41 = 0 then out else joinL (out ++ [(mkRat (p.1.tmod 41) (denP p), radP p)])
def makeL (l : List Pa) : List Tm := (l.take 6).foldl stepP []
theorem getD_mem {α : Type} {l : List α} {k : Nat} {d : α} (h : d ∈ l) : l.getD k d ∈ l := by
  rw [List.getD_eq_getElem?_getD]
  cases hq : l[k]? with
  | none => exact h
  | some x => exact List.mem_of_getElem? hq
theorem radP_mem (p : Pa) : radP p ∈ R10 := getD_mem (by decide)
theorem denP_mem (p : Pa) : denP p ∈ [1, 2, 3, 4, 6, 12] := getD_mem (by decide)
theorem denP_dvd (p : Pa) : ∃ k : Nat, denP p * k = 12 ∧ k ≤ 12 ∧ 0 < denP p ∧ denP p ≤ 12 := by
  have h := denP_mem p
  generalize denP p = d at h
  simp only [List.mem_cons, List.not_mem_nil, or_false] at h
  rcases h with rfl | rfl | rfl | rfl | rfl | rfl
  · exact ⟨12, by decide⟩
  · exact ⟨6, by decide⟩
  · exact ⟨4, by decide⟩
  · exact ⟨3, by decide⟩
  · exact ⟨2, by decide⟩
  · exact ⟨1, by decide⟩
theorem tmod41 (n : Int) : -40 ≤ n.tmod 41 ∧ n.tmod 41 ≤ 40 := by
  have h1 : (n.tmod 41).natAbs = n.natAbs % 41 := Int.natAbs_tmod n 41
  omega

/-- what Make keeps -/
structure Mk (t : Nat) (out : List Tm) : Prop where
  can : Can out
  len : out.length ≤ t
  val : ∀ b, ∃ M : Int, M.natAbs ≤ 2400 * t ∧ vlB b out * 12 = (M : Rat)
theorem Mk.nil : Mk 0 [] := ⟨⟨fun x hx => (by cases hx), fun x hx => (by cases hx), .nil, .nil⟩, Nat.le_refl _, fun b => ⟨0, by decide, by show (0 : Rat) * 12 = _; rw [Rat.zero_mul]; rfl⟩⟩
theorem joinL_len (all : List Tm) : (joinL all).length ≤ all.length := joinT_len all _
theorem part_val (p : Pa) : ∃ M : Int, M.natAbs ≤ 2400 ∧ mkRat (p.1.tmod 41) (denP p) * ((bs (radP p)).2 : Rat) * 12 = (M : Rat) := by
  obtain ⟨k, h1, h2, h3, _⟩ := denP_dvd p
  obtain ⟨_, _, s1, s2, _⟩ := r10_form _ (radP_mem p)
  obtain ⟨n1, n2⟩ := tmod41 p.1
  generalize p.1.tmod 41 = n at *
  generalize denP p = d at *
  generalize (bs (radP p)).2 = s at *
  refine ⟨n * s * k, ?_, ?_⟩
  · rw [Int.natAbs_mul, Int.natAbs_mul, Int.natAbs_natCast, Int.natAbs_natCast]
    have e1 : n.natAbs ≤ 40 := by omega
    have e2 := Nat.mul_le_mul (Nat.mul_le_mul e1 s2) h2
    omega
  · rw [Rat.mkRat_eq_div, show (12 : Rat) = ((d * k : Nat) : Rat) by rw [h1]; rfl]
    have hd := nat_ne h3
    push_cast
    generalize (n : Rat) = n at *
    generalize (d : Rat) = d at *
    generalize (s : Rat) = s at *
    generalize (k : Rat) = k at *
    grind
theorem Mk.step {t : Nat} {out : List Tm} (h : Mk t out) (p : Pa) : Mk (t + 1) (stepP out p) := by
  unfold stepP
  split
  · exact ⟨h.can, by have := h.len; omega, fun b => by obtain ⟨M, h1, h2⟩ := h.val b; exact ⟨M, by omega, h2⟩⟩
  · have hr : inR (out ++ [(mkRat (p.1.tmod 41) (denP p), radP p)]) := by
      intro x hx
      rcases List.mem_append.1 hx with hx | hx
      · exact h.can.rad x hx
      · rw [List.mem_singleton.1 hx]; exact radP_mem p
    obtain ⟨c, hv⟩ := joinL_can hr
    refine ⟨c, ?_, fun b => ?_⟩
    · have := joinL_len (out ++ [(mkRat (p.1.tmod 41) (denP p), radP p)])
      have := h.len
      rw [List.length_append, List.length_singleton] at *; omega
    · obtain ⟨M, h1, h2⟩ := h.val b
      obtain ⟨M', h3, h4⟩ := part_val p
      rw [hv b, vlB_app]
      show ∃ N : Int, _ ∧ (vlB b out + ((if (bs (radP p)).1 = b then mkRat (p.1.tmod 41) (denP p) * ((bs (radP p)).2 : Rat) else 0) + 0)) * 12 = _
      split
      · refine ⟨M + M', by omega, ?_⟩
        rw [Rat.intCast_add, ← h2, ← h4]; grind
      · exact ⟨M, by omega, by rw [← h2]; grind⟩
theorem Mk.rd {t : Nat} {out : List Tm} (h : Mk t out) (ht : t ≤ 40) {x : Tm} (hx : x ∈ out) : rd x.1 ≤ 5 := by
  obtain ⟨M, h1, h2⟩ := h.val (bs x.2).1
  rw [← h.can.val hx] at h2
  obtain ⟨_, _, s1, s2, _⟩ := r10_form _ (h.can.rad x hx)
  have e : x.1 = mkRat M (12 * (bs x.2).2) := by
    rw [Rat.mkRat_eq_div, ← h2]
    have hs := nat_ne s1
    push_cast
    generalize ((bs x.2).2 : Rat) = s at *
    grind
  rw [e]
  refine rd_mk (by omega) ?_ ?_
  · refine dd_len_le (by decide) ?_
    show M.natAbs < 100000
    omega
  · refine dd_len_le (by decide) ?_
    omega
theorem Mk.ok {t : Nat} {out : List Tm} (h : Mk t out) (ht : t ≤ 40) : SOk out := by
  refine ⟨by have := h.len; omega, fun x hx => ?_, fun i j x y hij hx hy => ?_⟩
  · obtain ⟨e, p1, p2, p3, p4, p5⟩ := r10_form _ (h.can.rad x hx)
    refine ⟨h.can.ne x hx, by have := h.rd ht hx; omega, ?_, ?_, fun hq => ?_⟩
    · rw [e]; exact Nat.mul_pos (Nat.mul_pos p1 p2) p2
    · exact Nat.le_trans (dl_small (k := 4) (by decide) (by omega)) (by decide)
    · have h1 : (1 : Nat) ∈ R10 := by decide
      have := (r10_sq (h.can.rad x hx) h1).1 (by rw [Nat.mul_one]; exact hq)
      exact p5 this
  · have hi := (List.getElem?_eq_some_iff.1 hx)
    have hj := (List.getElem?_eq_some_iff.1 hy)
    obtain ⟨i1, rfl⟩ := hi
    obtain ⟨j1, rfl⟩ := hj
    refine ⟨List.pairwise_iff_getElem.1 h.can.lt i j i1 j1 hij, fun hq => ?_⟩
    exact List.pairwise_iff_getElem.1 h.can.cls i j i1 j1 hij ((r10_sq (h.can.rad _ (List.getElem_mem i1)) (h.can.rad _ (List.getElem_mem j1))).1 hq)
theorem Mk.tBd {t : Nat} {out : List Tm} (h : Mk t out) (ht : t ≤ 40) : ∀ x ∈ out, tBd x := fun x hx => by
  obtain ⟨a1, a2, a3, a4, a5⟩ := (h.ok ht).ok x hx
  exact ⟨by have := h.rd ht hx; omega, a3, a4⟩
end Go.Proofs

/-
  SURD: Make, made, the reference's Text, Rational, Scale as contracts. Own work.
-/
namespace Go.Proofs
open Go Go.Pi Go.RowKit Go.Ar

/-- the sum of the first parts -/
def makeT (l : List Pa) (k : Nat) : List Tm := (l.take k).foldl stepP []
theorem tmod_nat {a : Int} (h : 0 ≤ a) (m : Nat) (hm : 0 < m) : (a.tmod m).toNat < m ∧ a.tmod m = ((a.tmod m).toNat : Int) := by
  have h1 : a.tmod (m : Int) = a % (m : Int) := Int.tmod_eq_emod_of_nonneg h
  have h2 := Int.emod_nonneg a (b := (m : Int)) (by omega)
  have h3 := Int.emod_lt_of_pos a (b := (m : Int)) (by omega)
  rw [h1]; omega

end Go.Proofs

/-
  SURD: the reference's Text; SurdTexts, SurdRationals, SurdScales. Own work.
-/
namespace Go.Proofs
open Go Go.Pi Go.RowKit Go.Ar

end Go.Proofs

/-
  SURD: Text of nothing; SurdTexts. Own work.
-/
namespace Go.Proofs
open Go Go.Pi Go.RowKit Go.Shelf Go.Ar
attribute [local go_sem] Oper.semAt_some
set_option maxRecDepth 100000 in
set_option maxHeartbeats 4000000 in
theorem Tryz.text_nil : Con Tryz.prog Tryz.L 27 [sg []] (.tup [.str [48], .int .i64 0]) := by
  have hck := Tryz.check [] ⟨by decide, fun x hx => (by cases hx), fun i j x y _ hx => (by simp at hx)⟩
  refine ⟨⟨by kernel_rfl, rfl⟩, fun S w vs hS hL hv => ?_⟩
  obtain ⟨x, vs', rfl, hx, h2⟩ := hv.uncons
  have : vs' = [] := by cases vs' with | nil => rfl | cons _ _ => have := h2.1; simp at this
  subst this
  clear h2 hv
  obtain ⟨ad, cap, rfl⟩ : ∃ ad cap, x = .slice ad 0 cap := by
    have hs' : ∀ k cs, Rep S w (.sl k cs) x → ∃ ad cap, x = .slice ad k cap := fun k cs h => by cases h <;> exact ⟨_, _, rfl⟩
    exact hs' _ _ hx
  refine CallsIn.calls (F := Fence.wide) (n := 1) (callsIn_of_wp_marks Tryz.func27 rfl trivial ?_) (fun k d e => by cases e)
  simp only [Tryz.ntmps27, List.size_toArray, List.length_cons, List.length_nil, Nat.reduceAdd, Nat.reduceSub, Array.replicate_succ, Array.replicate_zero, List.push_toArray, List.append_toArray, List.nil_append, List.cons_append]
  have mixed : Tryz.prog.follows .mixedOrders = true := by kernel_rfl
  have t0 := Tryz.underlying25; have a0 := Tryz.isAgg25; have z0 := Tryz.sizeOf25; have v0 := Tryz.zeroValue25; have u0 := run_underlying Tryz.underlying25
  have t1 := Tryz.underlying45; have a1 := Tryz.isAgg45; have z1 := Tryz.sizeOf45; have v1 := Tryz.zeroValue45; have u1 := run_underlying Tryz.underlying45
  have t2 := Tryz.underlying26; have a2 := Tryz.isAgg26; have z2 := Tryz.sizeOf26; have v2 := Tryz.zeroValue26; have u2 := run_underlying Tryz.underlying26
  have t3 := Tryz.underlying4; have a3 := Tryz.isAgg4; have z3 := Tryz.sizeOf4; have v3 := Tryz.zeroValue4; have u3 := run_underlying Tryz.underlying4
  have t4 := Tryz.underlying3; have a4 := Tryz.isAgg3; have z4 := Tryz.sizeOf3; have v4 := Tryz.zeroValue3; have u4 := run_underlying Tryz.underlying3
  have t5 := Tryz.underlying9; have a5 := Tryz.isAgg9; have z5 := Tryz.sizeOf9; have v5 := Tryz.zeroValue9; have u5 := run_underlying Tryz.underlying9
  have t6 := Tryz.underlying22; have a6 := Tryz.isAgg22; have z6 := Tryz.sizeOf22; have v6 := Tryz.zeroValue22; have u6 := run_underlying Tryz.underlying22
  have t7 := Tryz.underlying35; have a7 := Tryz.isAgg35; have z7 := Tryz.sizeOf35; have v7 := Tryz.zeroValue35; have u7 := run_underlying Tryz.underlying35
  have t8 := Tryz.underlying112; have a8 := Tryz.isAgg112; have z8 := Tryz.sizeOf112; have v8 := Tryz.zeroValue112; have u8 := run_underlying Tryz.underlying112
  have t9 := Tryz.underlying109; have a9 := Tryz.isAgg109; have z9 := Tryz.sizeOf109; have v9 := Tryz.zeroValue109; have u9 := run_underlying Tryz.underlying109
  have t10 := Tryz.underlying110; have a10 := Tryz.isAgg110; have z10 := Tryz.sizeOf110; have v10 := Tryz.zeroValue110; have u10 := run_underlying Tryz.underlying110
  have t11 := Tryz.underlying5; have a11 := Tryz.isAgg5; have z11 := Tryz.sizeOf5; have v11 := Tryz.zeroValue5; have u11 := run_underlying Tryz.underlying5
  have e140 : ∀ args w, (callFunc 57 args).run Tryz.prog w = .ok (.enter 57 args) w := enters_of Tryz.func57 (by kernel_rfl) rfl
  have e141 : ∀ args w, (callFunc 71 args).run Tryz.prog w = .ok (.enter 71 args) w := enters_of Tryz.func71 (by kernel_rfl) rfl
  have e142 : ∀ args w, (callFunc 46 args).run Tryz.prog w = .ok (.enter 46 args) w := enters_of Tryz.func46 (by kernel_rfl) rfl
  have e143 : ∀ args w, (callFunc 72 args).run Tryz.prog w = .ok (.enter 72 args) w := enters_of Tryz.func72 (by kernel_rfl) rfl
  have e144 : ∀ args w, (callFunc 73 args).run Tryz.prog w = .ok (.enter 73 args) w := enters_of Tryz.func73 (by kernel_rfl) rfl
  gi_wp2
  have c0 := hck.2 S w [.slice ad 0 cap] hS hL (Reps.cons hx .nil)
  refine ⟨trivial, CallsIn.mono ((callsIn_wide (n := 0)).2 c0) ?_⟩
  rintro e W1 ⟨v, rfl, hb1, hr1⟩
  obtain rfl : v = .int .i64 0 := by cases hr1; rfl
  clear hr1 c0
  gi_wp2
  refine ⟨.tuple #[.string ⟨[48].toArray⟩, .int .i64 0], by simp [results, Sem.run_pure, go_sem], _, rfl, hb1, ?_⟩
  refine .tup [.str [48], .int .i64 0] [.string ⟨[48].toArray⟩, .int .i64 0] rfl fun i d v hd hv => ?_
  match i with
  | 0 => simp at hd hv; subst hd; subst hv; exact .str [48] (by decide)
  | 1 => simp at hd hv; subst hd; subst hv; exact .int _ _
  | i + 2 => simp at hd

theorem Tryz.texts (l : List Tm) (h : SOk l) : Con Tryz.prog Tryz.L 27 [sg l] (.tup [.str (if l = [] then [48] else sumT true l), .int .i64 0]) := by
  by_cases h0 : l = []
  · rw [if_pos h0, h0]; exact Tryz.text_nil
  · rw [if_neg h0]; exact Tryz.text l h h0

end Go.Proofs

/-
  SURD: Scale, scaled; SurdScales. Own work.
-/
namespace Go.Proofs
open Go Go.Pi Go.RowKit Go.Ar

set_option maxHeartbeats 4000000 in
theorem Tryz.scale (l : List Tm) (h : SOk l) (k : Rat) (hk : rd k ≤ 100) (h0 : k ≠ 0) (hl : ∀ x ∈ l, rd x.1 ≤ 100) : Con Tryz.prog Tryz.L 29 [sg l, .str (rt k)] (.tup [sg (mulT k l), .int .i64 0]) := by
  have hlen := h.len
  have hrl : (tms l).length = l.length * 2 := rows_length tD_len l
  have hlm : (mulT k l).length = l.length := by simp [mulT]
  refine rule29 Tryz.hL rfl rfl rfl ?_
  (simp only [pc29, rs29, oU, oC]; refine ev ?_; try with_reducible exact trivial)
  refine callF_of (Tryz.check l h) ?_
  (refine ev ?_; try with_reducible exact trivial)
  refine callF_of (Tryz.rcheckQ k (by omega)) ?_
  (refine ev ?_; try with_reducible exact trivial)
  rw [rt_zero]
  refine ⟨fun h2 => absurd h2 h0, fun _ => ?_⟩
  refine loopF_of (fun E => ∃ n : Nat, n ≤ l.length ∧ E = [(1, .str (rt k)), (7, .own true 45 n (tms ((mulT k l).take n))), (20, sg l), (21, .int .i64 l.length), (22, .int .i64 n)])
    (fun E => match lk E 22 with | .int _ i => l.length - i.toNat | _ => 0) ⟨0, Nat.zero_le _, by simp [rows]⟩ ?_
  rintro _ ⟨n, hn, rfl⟩
  have hrm : (tms ((mulT k l).take n)).length = n * 2 := by
    rw [rows_length tD_len, List.length_take, hlm, Nat.min_eq_left hn]
  (refine ev ?_; try with_reducible exact trivial)
  refine ⟨fun h3 => ?_, fun h3 => ?_⟩
  · have hx : l[n]? = some (l[n]'(by omega)) := List.getElem?_eq_getElem (by omega)
    generalize l[n]'(by omega) = x at hx
    have hx1 := hl x (List.mem_of_getElem? hx)
    have tx : (mulT k l)[n]? = some (x.1 * k, x.2) := by simp [mulT, hx]
    refine ⟨⟨by omega, by omega, by omega⟩, ?_⟩
    rw [tms_at hx]
    simp only [tD, evX, evY, evZ, forall_const, implies_true, initE, stepF, D.clean, mvF, moF, tkF, shF, ariF, ciF, catF, scF, ebF, eqF, eqOk, eqPr, enF, notF, ngF, cvF, csF, csbF, lenF, lenSF, ixF, iaF, PX.slot, iaAF, faF, ldF, D.mem, stF, bxF, mkSF, boundF, fldF, mmF2, D.plain, D.isPure, optAll, D.dull, callVF, splice, D.cells, D.one, sets, resT, D.flat, D.flat0, D.simple, Nat.reduceBNe, Nat.reduceLT, reduceIte, Nat.reduceEqDiff, Nat.reduceAdd, Nat.reduceMul, Nat.reduceSub, Nat.reduceLeDiff, Int.reduceToNat, Int.reduceLT, Int.reduceLE, Int.reduceEq, Int.reduceNeg, Int.reduceSub, Int.reduceAdd, Int.reduceMul, stG_own]
    refine callF_of (Tryz.rmul x.1 k (by omega) (by omega)) ?_
    (refine ev ?_; try with_reducible exact trivial)
    refine ⟨by omega, by omega, ⟨by omega, by omega⟩, ⟨n + 1, by omega, ?_⟩, by omega⟩
    rw [take_snoc tx, tms_snoc]; simp [tD]
  · have e : n = l.length := by omega
    subst e
    rw [← hlm, List.take_length]
    have hr := Tryz.result_ok (mulT k l) (by omega) (fun y hy => by
      obtain ⟨z, hz, rfl⟩ := List.mem_map.1 hy
      have h5 := rd_mul z.1 k
      have h6 := hl z hz
      exact ⟨by show rd (z.1 * k) ≤ 200; omega, (h.ok z hz).2.2.2.1⟩)
    refine callF_of hr ?_
    (refine ev ?_; try with_reducible exact trivial)
    simp [resD_two, rvD, lk, D.plain, D.isPure, optAll]

set_option maxHeartbeats 4000000 in
theorem Tryz.scaled (l : List Tm) (hlen : l.length ≤ 40) (k : Rat) (hk : rd k ≤ 100) (h0 : k ≠ 0) (hl : ∀ x ∈ l, rd x.1 ≤ 100) : Con Tryz.prog Tryz.L 30 [sg l, .str (rt k)] (sg (mulT k l)) := by
  have hrl : (tms l).length = l.length * 2 := rows_length tD_len l
  have hlm : (mulT k l).length = l.length := by simp [mulT]
  refine Con.flat (wr := true) (e := 39) ?_
  refine rule30 Tryz.hL rfl rfl rfl ?_
  (simp only [pc30, rs30, oU, oC]; refine ev ?_; try with_reducible exact trivial)
  refine loopF_of (fun E => ∃ n : Nat, n ≤ l.length ∧ E = [(0, sg l), (1, .str (rt k)), (5, .own true 39 n (tms ((mulT k l).take n))), (6, .int .i64 n)])
    (fun E => match lk E 6 with | .int _ i => l.length - i.toNat | _ => 0) ⟨0, Nat.zero_le _, by simp [rows]⟩ ?_
  rintro _ ⟨n, hn, rfl⟩
  have hrm : (tms ((mulT k l).take n)).length = n * 2 := by
    rw [rows_length tD_len, List.length_take, hlm, Nat.min_eq_left hn]
  (refine ev ?_; try with_reducible exact trivial)
  rw [rt_zero]
  have fin : n = l.length → D.own true 39 n (tms ((mulT k l).take n)) = D.own true 39 (mulT k l).length (tms (mulT k l)) := fun e => by
    rw [hlm, List.take_of_length_le (by omega), e]
  refine ⟨fun h3 => ⟨fun _ => ?_, fun h4 => absurd h0 h4⟩, fun h3 => fin (by omega)⟩
  have hx : l[n]? = some (l[n]'(by omega)) := List.getElem?_eq_getElem (by omega)
  generalize l[n]'(by omega) = x at hx
  have hx1 := hl x (List.mem_of_getElem? hx)
  have tx : (mulT k l)[n]? = some (x.1 * k, x.2) := by simp [mulT, hx]
  refine ⟨⟨by omega, by omega, by omega⟩, ?_⟩
  rw [tms_at hx]
  simp only [tD, evX, evY, evZ, forall_const, implies_true, initE, stepF, D.clean, mvF, moF, tkF, shF, ariF, ciF, catF, scF, ebF, eqF, eqOk, eqPr, enF, notF, ngF, cvF, csF, csbF, lenF, lenSF, ixF, iaF, PX.slot, iaAF, faF, ldF, D.mem, stF, bxF, mkSF, boundF, fldF, mmF2, D.plain, D.isPure, optAll, D.dull, callVF, splice, D.cells, D.one, sets, resT, D.flat, D.flat0, D.simple, Nat.reduceBNe, Nat.reduceLT, reduceIte, Nat.reduceEqDiff, Nat.reduceAdd, Nat.reduceMul, Nat.reduceSub, Nat.reduceLeDiff, Int.reduceToNat, Int.reduceLT, Int.reduceLE, Int.reduceEq, Int.reduceNeg, Int.reduceSub, Int.reduceAdd, Int.reduceMul, stG_own]
  refine callF_of (Tryz.ytimes x.1 k (by omega)) ?_
  (refine ev ?_; try with_reducible exact trivial)
  refine ⟨⟨by omega, by omega, by omega⟩, ?_⟩
  rw [tms_at hx]
  simp only [tD, evX, evY, evZ, forall_const, implies_true, initE, stepF, D.clean, mvF, moF, tkF, shF, ariF, ciF, catF, scF, ebF, eqF, eqOk, eqPr, enF, notF, ngF, cvF, csF, csbF, lenF, lenSF, ixF, iaF, PX.slot, iaAF, faF, ldF, D.mem, stF, bxF, mkSF, boundF, fldF, mmF2, D.plain, D.isPure, optAll, D.dull, callVF, splice, D.cells, D.one, sets, resT, D.flat, D.flat0, D.simple, Nat.reduceBNe, Nat.reduceLT, reduceIte, Nat.reduceEqDiff, Nat.reduceAdd, Nat.reduceMul, Nat.reduceSub, Nat.reduceLeDiff, Int.reduceToNat, Int.reduceLT, Int.reduceLE, Int.reduceEq, Int.reduceNeg, Int.reduceSub, Int.reduceAdd, Int.reduceMul, stG_own]
  refine ⟨by omega, by omega, ⟨by omega, by omega⟩, ⟨n + 1, by omega, ?_⟩, by omega⟩
  rw [take_snoc tx, tms_snoc]; simp [tD]

end Go.Proofs

/-
  SURD: sums of roots that are never small: sequences of rationals, without real numbers. Own work.
-/
namespace Go.Ar

/-- the sequence goes to zero as fast as 1 / (j + 1) -/
def Sm (f : Nat → Rat) : Prop := ∃ C : Nat, ∀ j : Nat, f j * ((j : Rat) + 1) ≤ C ∧ -(C : Rat) ≤ f j * ((j : Rat) + 1)
/-- bounded -/
def Bd (f : Nat → Rat) : Prop := ∃ C : Nat, ∀ j : Nat, f j ≤ C ∧ -(C : Rat) ≤ f j

theorem cast_add (a b : Nat) : ((a + b : Nat) : Rat) = a + b := Rat.natCast_add a b
theorem cast_mul (a b : Nat) : ((a * b : Nat) : Rat) = a * b := Rat.natCast_mul a b
theorem nat_nonneg (a : Nat) : (0 : Rat) ≤ a := Rat.natCast_nonneg
theorem Sm.add {f g : Nat → Rat} (hf : Sm f) (hg : Sm g) : Sm fun j => f j + g j := by
  obtain ⟨C, hC⟩ := hf
  obtain ⟨D, hD⟩ := hg
  refine ⟨C + D, fun j => ?_⟩
  have h1 := hC j; have h2 := hD j
  rw [cast_add]
  constructor <;> grind
theorem Sm.neg {f : Nat → Rat} (hf : Sm f) : Sm fun j => -f j := by
  obtain ⟨C, hC⟩ := hf
  refine ⟨C, fun j => ?_⟩
  have h1 := hC j
  constructor <;> grind
theorem Sm.congr {f g : Nat → Rat} (hf : Sm f) (h : ∀ j, g j = f j) : Sm g := by
  have : g = f := funext h
  rw [this]; exact hf
theorem Bd.add {f g : Nat → Rat} (hf : Bd f) (hg : Bd g) : Bd fun j => f j + g j := by
  obtain ⟨C, hC⟩ := hf
  obtain ⟨D, hD⟩ := hg
  refine ⟨C + D, fun j => ?_⟩
  have h1 := hC j; have h2 := hD j
  rw [cast_add]
  constructor <;> grind
theorem Bd.neg {f : Nat → Rat} (hf : Bd f) : Bd fun j => -f j := by
  obtain ⟨C, hC⟩ := hf
  refine ⟨C, fun j => ?_⟩
  have h1 := hC j
  constructor <;> grind
/-- a product of two that are bounded -/
theorem prod_le {a b C D : Rat} (h1 : a ≤ C) (h2 : -C ≤ a) (h3 : b ≤ D) (h4 : -D ≤ b) : a * b ≤ C * D ∧ -(C * D) ≤ a * b := by
  have p1 := Rat.mul_nonneg (show 0 ≤ C - a by grind) (show 0 ≤ D - b by grind)
  have p2 := Rat.mul_nonneg (show 0 ≤ C + a by grind) (show 0 ≤ D + b by grind)
  have p3 := Rat.mul_nonneg (show 0 ≤ C - a by grind) (show 0 ≤ D + b by grind)
  have p4 := Rat.mul_nonneg (show 0 ≤ C + a by grind) (show 0 ≤ D - b by grind)
  constructor <;> grind
theorem Sm.mul {f g : Nat → Rat} (hf : Sm f) (hg : Bd g) : Sm fun j => f j * g j := by
  obtain ⟨C, hC⟩ := hf
  obtain ⟨D, hD⟩ := hg
  refine ⟨C * D, fun j => ?_⟩
  have := prod_le (hC j).1 (hC j).2 (hD j).1 (hD j).2
  rw [cast_mul]
  have e : f j * g j * ((j : Rat) + 1) = f j * ((j : Rat) + 1) * g j := by grind
  rw [e]; exact this
theorem Bd.mul {f g : Nat → Rat} (hf : Bd f) (hg : Bd g) : Bd fun j => f j * g j := by
  obtain ⟨C, hC⟩ := hf
  obtain ⟨D, hD⟩ := hg
  refine ⟨C * D, fun j => ?_⟩
  rw [cast_mul]
  exact prod_le (hC j).1 (hC j).2 (hD j).1 (hD j).2
theorem num_eq (c : Rat) : (c.num : Rat) = c * (c.den : Rat) := by
  have h : (c.den : Rat) ≠ 0 := fun e => by
    have : (c.den : Rat) = ((0 : Nat) : Rat) := by rw [e]; rfl
    exact c.den_nz (Rat.natCast_inj.1 this)
  have h2 : mkRat c.num c.den = c := Rat.mkRat_self c
  rw [Rat.mkRat_eq_div] at h2
  have key : ∀ n d c : Rat, d ≠ 0 → n / d = c → n = c * d := fun n d c h h2 => by rw [← h2]; grind
  exact key _ _ _ h h2
theorem Bd.const (c : Rat) : Bd fun _ => c := by
  refine ⟨c.num.natAbs, fun _ => ?_⟩
  have hd : (0 : Rat) < (c.den : Rat) := by have := c.den_pos; exact Rat.natCast_pos.2 this
  have hd1 : (1 : Rat) ≤ (c.den : Rat) := by
    have := Rat.natCast_le_natCast.2 (show 1 ≤ c.den from c.den_pos); exact this
  have hn := num_eq c
  have h1 : (c.num : Rat) ≤ (c.num.natAbs : Rat) := by
    have : (c.num : Int) ≤ (c.num.natAbs : Int) := by omega
    exact Rat.intCast_le_intCast.2 this
  have h2 : -(c.num.natAbs : Rat) ≤ (c.num : Rat) := by
    have : -(c.num.natAbs : Int) ≤ c.num := by omega
    have h := Rat.intCast_le_intCast.2 this
    rw [Rat.intCast_neg] at h; exact h
  have h0 := nat_nonneg c.num.natAbs
  generalize (c.num.natAbs : Rat) = N at *
  generalize (c.den : Rat) = d at *
  rw [hn] at h1 h2
  have hN := Rat.mul_nonneg h0 (show 0 ≤ d - 1 by grind)
  constructor
  · refine Rat.not_lt.1 fun h => ?_
    have := Rat.mul_pos (show 0 < c - N by grind) hd
    grind
  · refine Rat.not_lt.1 fun h => ?_
    have := Rat.mul_pos (show 0 < -N - c by grind) hd
    grind
/-- a constant that is small is zero -/
theorem Sm.const {c : Rat} (h : Sm fun _ => c) : c = 0 := by
  obtain ⟨C, hC⟩ := h
  refine Classical.byContradiction fun h0 => ?_
  have key : ∀ e : Rat, 0 < e → (∀ j : Nat, e * ((j : Rat) + 1) ≤ C) → False := by
    intro e he hj
    have hden : (0 : Rat) < (e.den : Rat) := Rat.natCast_pos.2 e.den_pos
    have hn := num_eq e
    have hnum : 0 < e.num := (sign_num e).2.2.2 he
    have h1 : (1 : Rat) ≤ (e.num : Rat) := Rat.intCast_le_intCast.2 (show (1 : Int) ≤ e.num by omega)
    have h2 := hj (C * e.den)
    rw [cast_mul] at h2
    have hC0 := nat_nonneg C
    generalize (C : Rat) = C at *
    generalize (e.den : Rat) = d at *
    generalize (e.num : Rat) = n at *
    have h3 : e * (C * d + 1) = C * n + e := by rw [hn]; grind
    rw [h3] at h2
    have h4 := Rat.mul_nonneg hC0 (show 0 ≤ n - 1 by grind)
    grind
  rcases (show c < 0 ∨ 0 < c by grind) with h | h
  · exact key (-c) (by grind) fun j => by have := (hC j).2; grind
  · exact key c h fun j => (hC j).1
end Go.Ar

/-
  SURD: the roots of 2, 3, 5, 1009 and their products are independent: sums of them are not small. Own work.
-/
namespace Go.Ar
open Go.Proofs

theorem not_sq {n : Nat} (h : n < 1100 * 1100) (h2 : sqB n = false) : ¬isq n := fun hq => by
  rw [isq_sqB h, h2] at hq; cases hq
theorem rmul_zero {a b : Rat} (h : a * b = 0) : a = 0 ∨ b = 0 := by
  by_cases ha : a = 0
  · exact .inl ha
  · refine .inr ?_
    have : a⁻¹ * (a * b) = 0 := by rw [h, Rat.mul_zero]
    rw [← Rat.mul_assoc, Rat.inv_mul_cancel a ha, Rat.one_mul] at this
    exact this
theorem rsq_zero {a : Rat} (h : a * a = 0) : a = 0 := (rmul_zero h).elim id id
/-- no square of a rational number is a multiple of another by a number that is no square -/
theorem A0 {n : Nat} (hn : ¬isq n) {r s : Rat} (h : r * r = (n : Rat) * (s * s)) : r = 0 ∧ s = 0 := by
  by_cases hs : s = 0
  · rw [hs, Rat.mul_zero, Rat.mul_zero] at h
    exact ⟨rsq_zero h, hs⟩
  · exfalso
    refine hn ?_
    have hq : (r / s) * (r / s) = (n : Rat) := by
      have key : ∀ r s n : Rat, s ≠ 0 → r * r = n * (s * s) → (r / s) * (r / s) = n := fun r s n h0 h => by grind
      exact key r s n hs h
    generalize r / s = q at hq
    have e := num_eq q
    have hden : (q.den : Rat) ≠ 0 := fun e2 => by
      have : (q.den : Rat) = ((0 : Nat) : Rat) := by rw [e2]; rfl
      exact q.den_nz (Rat.natCast_inj.1 this)
    have h2 : (q.num : Rat) * (q.num : Rat) = (n : Rat) * ((q.den : Rat) * (q.den : Rat)) := by rw [e, ← hq]; grind
    have h3 : q.num * q.num = (n : Int) * ((q.den : Int) * (q.den : Int)) := by
      refine Rat.intCast_inj.1 ?_
      rw [Rat.intCast_mul, Rat.intCast_mul, Rat.intCast_mul]
      exact h2
    have h4 : q.num.natAbs * q.num.natAbs = n * (q.den * q.den) := by
      have := congrArg Int.natAbs h3
      rw [Int.natAbs_mul, Int.natAbs_mul, Int.natAbs_mul] at this
      exact this
    have hc : Nat.Coprime q.den q.num.natAbs := q.reduced.symm
    have hd : q.den ∣ q.num.natAbs := hc.dvd_of_dvd_mul_left (by rw [h4]; exact ⟨n * q.den, by grind⟩)
    have h1 : q.den = 1 := Nat.Coprime.eq_one_of_dvd hc hd
    rw [h1] at h4
    have : n = q.num.natAbs * q.num.natAbs := by omega
    rw [this]; exact isq_sq _

/-- the same over the root of 2 -/
theorem A1 {n : Nat} (h1 : ¬isq n) (h2 : ¬isq (2 * n)) {u1 u2 w1 w2 : Rat} (e1 : u1 * u1 + 2 * (u2 * u2) = n * (w1 * w1 + 2 * (w2 * w2))) (e2 : u1 * u2 = n * (w1 * w2)) : (u1 = 0 ∧ u2 = 0) ∧ w1 = 0 ∧ w2 = 0 := by
  have hp : (u1 * u1 - 2 * (u2 * u2) - n * (w1 * w1 - 2 * (w2 * w2))) * (u1 * u1 - 2 * (u2 * u2) + n * (w1 * w1 - 2 * (w2 * w2))) = 0 := by
    generalize (n : Rat) = m at *
    have a1 : (u1 * u1 + 2 * (u2 * u2)) * (u1 * u1 + 2 * (u2 * u2)) = (m * (w1 * w1 + 2 * (w2 * w2))) * (m * (w1 * w1 + 2 * (w2 * w2))) := by rw [e1]
    have a2 : (u1 * u2) * (u1 * u2) = (m * (w1 * w2)) * (m * (w1 * w2)) := by rw [e2]
    clear e1 e2
    grind
  rcases rmul_zero hp with h | h
  · have f1 := A0 h1 (r := u1) (s := w1) (by grind)
    have f2 := A0 h1 (r := u2) (s := w2) (by grind)
    exact ⟨⟨f1.1, f2.1⟩, f1.2, f2.2⟩
  · have f1 := A0 h2 (r := u1) (s := w2) (by rw [Go.Ar.cast_mul]; grind)
    have f2 := A0 h2 (r := 2 * u2) (s := w1) (by rw [Go.Ar.cast_mul]; grind)
    exact ⟨⟨f1.1, by grind⟩, f2.2, f1.2⟩
theorem sq2 : ¬isq 2 := not_sq (by decide) (by decide +kernel)
theorem sq3 : ¬isq 3 := not_sq (by decide) (by decide +kernel)
theorem sq5 : ¬isq 5 := not_sq (by decide) (by decide +kernel)
theorem sq6 : ¬isq 6 := not_sq (by decide) (by decide +kernel)
theorem ND1 {u1 u2 w1 w2 : Rat} (e1 : u1 * w1 + 2 * (u2 * w2) = 0) (e2 : u1 * w2 + u2 * w1 = 0) : (u1 = 0 ∧ u2 = 0) ∨ (w1 = 0 ∧ w2 = 0) := by
  have a1 : (u1 * u1 - 2 * (u2 * u2)) * w1 = 0 := by grind
  have a2 : (u1 * u1 - 2 * (u2 * u2)) * w2 = 0 := by grind
  by_cases h : u1 * u1 - 2 * (u2 * u2) = 0
  · exact .inl (A0 sq2 (r := u1) (s := u2) (by have : ((2 : Nat) : Rat) = 2 := rfl; grind))
  · exact .inr ⟨(rmul_zero a1).resolve_left h, (rmul_zero a2).resolve_left h⟩

/-- the same over the roots of 2 and 3 -/
theorem A2 {n : Nat} (h1 : ¬isq n) (h2 : ¬isq (2 * n)) (h3 : ¬isq (3 * n)) (h6 : ¬isq (2 * (3 * n))) {u1 u2 v1 v2 w1 w2 t1 t2 : Rat}
    (e1 : u1 * u1 + 2 * (u2 * u2) + 3 * (v1 * v1 + 2 * (v2 * v2)) = n * (w1 * w1 + 2 * (w2 * w2) + 3 * (t1 * t1 + 2 * (t2 * t2))))
    (e2 : u1 * u2 + 3 * (v1 * v2) = n * (w1 * w2 + 3 * (t1 * t2))) (e3 : u1 * v1 + 2 * (u2 * v2) = n * (w1 * t1 + 2 * (w2 * t2))) (e4 : u1 * v2 + u2 * v1 = n * (w1 * t2 + w2 * t1)) :
    (u1 = 0 ∧ u2 = 0 ∧ v1 = 0 ∧ v2 = 0) ∧ w1 = 0 ∧ w2 = 0 ∧ t1 = 0 ∧ t2 = 0 := by
  have hp : ∀ m : Rat, u1 * u1 + 2 * (u2 * u2) + 3 * (v1 * v1 + 2 * (v2 * v2)) = m * (w1 * w1 + 2 * (w2 * w2) + 3 * (t1 * t1 + 2 * (t2 * t2))) →
      u1 * u2 + 3 * (v1 * v2) = m * (w1 * w2 + 3 * (t1 * t2)) → u1 * v1 + 2 * (u2 * v2) = m * (w1 * t1 + 2 * (w2 * t2)) → u1 * v2 + u2 * v1 = m * (w1 * t2 + w2 * t1) →
      (let p1 := u1 * u1 + 2 * (u2 * u2) - 3 * (v1 * v1 + 2 * (v2 * v2)); let p2 := 2 * (u1 * u2 - 3 * (v1 * v2)); let q1 := m * (w1 * w1 + 2 * (w2 * w2) - 3 * (t1 * t1 + 2 * (t2 * t2))); let q2 := 2 * (m * (w1 * w2 - 3 * (t1 * t2)));
        (p1 - q1) * (p1 + q1) + 2 * ((p2 - q2) * (p2 + q2)) = 0 ∧ (p1 - q1) * (p2 + q2) + (p2 - q2) * (p1 + q1) = 0) := by
    intro m e1 e2 e3 e4 p1 p2 q1 q2
    -- the squares of both, as (U² + 3 V²)² - 12 (U V)²
    have a1 : p1 * p1 + 2 * (p2 * p2) = (u1 * u1 + 2 * (u2 * u2) + 3 * (v1 * v1 + 2 * (v2 * v2))) * (u1 * u1 + 2 * (u2 * u2) + 3 * (v1 * v1 + 2 * (v2 * v2))) + 8 * ((u1 * u2 + 3 * (v1 * v2)) * (u1 * u2 + 3 * (v1 * v2))) - 12 * ((u1 * v1 + 2 * (u2 * v2)) * (u1 * v1 + 2 * (u2 * v2)) + 2 * ((u1 * v2 + u2 * v1) * (u1 * v2 + u2 * v1))) := by grind
    have a2 : q1 * q1 + 2 * (q2 * q2) = (m * (w1 * w1 + 2 * (w2 * w2) + 3 * (t1 * t1 + 2 * (t2 * t2)))) * (m * (w1 * w1 + 2 * (w2 * w2) + 3 * (t1 * t1 + 2 * (t2 * t2)))) + 8 * ((m * (w1 * w2 + 3 * (t1 * t2))) * (m * (w1 * w2 + 3 * (t1 * t2)))) - 12 * ((m * (w1 * t1 + 2 * (w2 * t2))) * (m * (w1 * t1 + 2 * (w2 * t2))) + 2 * ((m * (w1 * t2 + w2 * t1)) * (m * (w1 * t2 + w2 * t1)))) := by grind
    have a3 : p1 * p2 = 2 * ((u1 * u1 + 2 * (u2 * u2) + 3 * (v1 * v1 + 2 * (v2 * v2))) * (u1 * u2 + 3 * (v1 * v2))) - 12 * ((u1 * v1 + 2 * (u2 * v2)) * (u1 * v2 + u2 * v1)) := by grind
    have a4 : q1 * q2 = 2 * ((m * (w1 * w1 + 2 * (w2 * w2) + 3 * (t1 * t1 + 2 * (t2 * t2)))) * (m * (w1 * w2 + 3 * (t1 * t2)))) - 12 * ((m * (w1 * t1 + 2 * (w2 * t2))) * (m * (w1 * t2 + w2 * t1))) := by grind
    rw [e1, e2, e3, e4, ← a2] at a1
    rw [e1, e2, e3, e4, ← a4] at a3
    generalize p1 = p1 at *; generalize p2 = p2 at *; generalize q1 = q1 at *; generalize q2 = q2 at *
    clear e1 e2 e3 e4 a2 a4
    constructor <;> grind
  obtain ⟨b1, b2⟩ := hp n e1 e2 e3 e4
  clear hp
  rcases ND1 b1 b2 with ⟨c1, c2⟩ | ⟨c1, c2⟩
  · have f1 := A1 h1 h2 (u1 := u1) (u2 := u2) (w1 := w1) (w2 := w2) (by grind) (by grind)
    have f2 := A1 h1 h2 (u1 := v1) (u2 := v2) (w1 := t1) (w2 := t2) (by grind) (by grind)
    exact ⟨⟨f1.1.1, f1.1.2, f2.1.1, f2.1.2⟩, f1.2.1, f1.2.2, f2.2.1, f2.2.2⟩
  · have f1 := A1 h3 h6 (u1 := u1) (u2 := u2) (w1 := t1) (w2 := t2) (by rw [Go.Ar.cast_mul]; grind) (by rw [Go.Ar.cast_mul]; grind)
    have f2 := A1 h3 h6 (u1 := 3 * v1) (u2 := 3 * v2) (w1 := w1) (w2 := w2) (by rw [Go.Ar.cast_mul]; grind) (by rw [Go.Ar.cast_mul]; grind)
    exact ⟨⟨f1.1.1, f1.1.2, by grind, by grind⟩, f2.2.1, f2.2.2, f1.2.1, f1.2.2⟩
end Go.Ar

/-
  SURD: sums of independent roots are not small. Own work.
-/
namespace Go.Ar
open Go.Proofs

theorem ND2 {u1 u2 v1 v2 w1 w2 t1 t2 : Rat} (e1 : u1 * w1 + 2 * (u2 * w2) + 3 * (v1 * t1 + 2 * (v2 * t2)) = 0) (e2 : u1 * w2 + u2 * w1 + 3 * (v1 * t2 + v2 * t1) = 0)
    (e3 : u1 * t1 + 2 * (u2 * t2) + (v1 * w1 + 2 * (v2 * w2)) = 0) (e4 : u1 * t2 + u2 * t1 + (v1 * w2 + v2 * w1) = 0) :
    (u1 = 0 ∧ u2 = 0 ∧ v1 = 0 ∧ v2 = 0) ∨ (w1 = 0 ∧ w2 = 0 ∧ t1 = 0 ∧ t2 = 0) := by
  -- the norm of the first factor times the second one
  have a1 : (u1 * u1 + 2 * (u2 * u2) - 3 * (v1 * v1 + 2 * (v2 * v2))) * w1 + 2 * ((2 * (u1 * u2 - 3 * (v1 * v2))) * w2) = 0 := by grind
  have a2 : (u1 * u1 + 2 * (u2 * u2) - 3 * (v1 * v1 + 2 * (v2 * v2))) * w2 + (2 * (u1 * u2 - 3 * (v1 * v2))) * w1 = 0 := by grind
  have a3 : (u1 * u1 + 2 * (u2 * u2) - 3 * (v1 * v1 + 2 * (v2 * v2))) * t1 + 2 * ((2 * (u1 * u2 - 3 * (v1 * v2))) * t2) = 0 := by grind
  have a4 : (u1 * u1 + 2 * (u2 * u2) - 3 * (v1 * v1 + 2 * (v2 * v2))) * t2 + (2 * (u1 * u2 - 3 * (v1 * v2))) * t1 = 0 := by grind
  have hz : (u1 * u1 + 2 * (u2 * u2) - 3 * (v1 * v1 + 2 * (v2 * v2)) = 0 ∧ 2 * (u1 * u2 - 3 * (v1 * v2)) = 0) → (u1 = 0 ∧ u2 = 0) ∧ v1 = 0 ∧ v2 = 0 := fun ⟨b1, b2⟩ =>
    A1 (n := 3) sq3 sq6 (by have : ((3 : Nat) : Rat) = 3 := rfl; grind) (by have : ((3 : Nat) : Rat) = 3 := rfl; grind)
  rcases ND1 a1 a2 with h | h
  · obtain ⟨⟨c1, c2⟩, c3, c4⟩ := hz h
    exact .inl ⟨c1, c2, c3, c4⟩
  · rcases ND1 a3 a4 with h2 | h2
    · obtain ⟨⟨c1, c2⟩, c3, c4⟩ := hz h2
      exact .inl ⟨c1, c2, c3, c4⟩
    · exact .inr ⟨h.1, h.2, h2.1, h2.2⟩

/-- approximations of the roots of 2, 3, 5 and 1009 -/
structure Apx (a b c d : Nat → Rat) : Prop where
  ba : Bd a
  bb : Bd b
  bc : Bd c
  bd : Bd d
  sa : Sm fun j => a j * a j - 2
  sb : Sm fun j => b j * b j - 3
  sc : Sm fun j => c j * c j - 5
  sd : Sm fun j => d j * d j - 1009

theorem Sm.sub {f g : Nat → Rat} (hf : Sm f) (hg : Sm g) : Sm fun j => f j - g j := (hf.add hg.neg).congr fun j => by grind
theorem Sm.of {f g h : Nat → Rat} (hf : Sm f) (hg : Sm g) (e : ∀ j, h j = f j + g j) : Sm h := (hf.add hg).congr e

variable {a b c d : Nat → Rat}
theorem Apx.one (A : Apx a b c d) {x1 x2 : Rat} (h : Sm fun j => x1 + x2 * a j) : x1 = 0 ∧ x2 = 0 := by
  have h1 := h.mul ((Bd.const x1).add ((Bd.const (-x2)).mul A.ba))
  have h2 := A.sa.mul (Bd.const (x2 * x2))
  have h3 : Sm fun _ => x1 * x1 - 2 * (x2 * x2) := h1.of h2 fun j => by grind
  have e := h3.const
  exact A0 sq2 (by have : ((2 : Nat) : Rat) = 2 := rfl; grind)
theorem Apx.two (A : Apx a b c d) {u1 u2 v1 v2 : Rat} (h : Sm fun j => (u1 + u2 * a j) + (v1 + v2 * a j) * b j) : (u1 = 0 ∧ u2 = 0) ∧ v1 = 0 ∧ v2 = 0 := by
  have bu : ∀ p q : Rat, Bd fun j => p + q * a j := fun p q => (Bd.const p).add ((Bd.const q).mul A.ba)
  have h1 := h.mul ((bu u1 u2).add (((bu v1 v2).mul A.bb).neg))
  have h2 := A.sb.mul ((bu v1 v2).mul (bu v1 v2))
  have h3 := A.sa.mul (Bd.const (3 * (v2 * v2) - u2 * u2))
  have h4 : Sm fun j => (u1 * u1 + 2 * (u2 * u2) - 3 * (v1 * v1 + 2 * (v2 * v2))) + (2 * (u1 * u2 - 3 * (v1 * v2))) * a j := ((h1.add h2).add h3).congr fun j => by grind
  obtain ⟨e1, e2⟩ := A.one h4
  exact A1 (n := 3) sq3 sq6 (by have : ((3 : Nat) : Rat) = 3 := rfl; grind) (by have : ((3 : Nat) : Rat) = 3 := rfl; grind)
/-- a sum over the roots of 2 and 3 -/
def kv (a b : Nat → Rat) (u1 u2 v1 v2 : Rat) (j : Nat) : Rat := (u1 + u2 * a j) + (v1 + v2 * a j) * b j
theorem Apx.kvB (A : Apx a b c d) (u1 u2 v1 v2 : Rat) : Bd (kv a b u1 u2 v1 v2) :=
  ((Bd.const u1).add ((Bd.const u2).mul A.ba)).add (((Bd.const v1).add ((Bd.const v2).mul A.ba)).mul A.bb)
/-- products of such sums, up to small ones -/
theorem Apx.kvM (A : Apx a b c d) (u1 u2 v1 v2 w1 w2 t1 t2 : Rat) : Sm fun j => kv a b u1 u2 v1 v2 j * kv a b w1 w2 t1 t2 j -
    kv a b (u1 * w1 + 2 * (u2 * w2) + 3 * (v1 * t1 + 2 * (v2 * t2))) (u1 * w2 + u2 * w1 + 3 * (v1 * t2 + v2 * t1)) (u1 * t1 + 2 * (u2 * t2) + (v1 * w1 + 2 * (v2 * w2))) (u1 * t2 + u2 * t1 + (v1 * w2 + v2 * w1)) j := by
  have bu : ∀ p q : Rat, Bd fun j => p + q * a j := fun p q => (Bd.const p).add ((Bd.const q).mul A.ba)
  have h2 := A.sb.mul ((bu v1 v2).mul (bu t1 t2))
  have h3 := A.sa.mul ((Bd.const (u2 * w2 + 3 * (v2 * t2))).add ((Bd.const (u2 * t2 + v2 * w2)).mul A.bb))
  exact (h2.add h3).congr fun j => by unfold kv; grind
theorem sq10 : ¬isq (2 * 5) := not_sq (by decide) (by decide +kernel)
theorem sq15 : ¬isq (3 * 5) := not_sq (by decide) (by decide +kernel)
theorem sq30 : ¬isq (2 * (3 * 5)) := not_sq (by decide) (by decide +kernel)
theorem Apx.three (A : Apx a b c d) {u1 u2 v1 v2 w1 w2 t1 t2 : Rat} (h : Sm fun j => kv a b u1 u2 v1 v2 j + kv a b w1 w2 t1 t2 j * c j) :
    (u1 = 0 ∧ u2 = 0 ∧ v1 = 0 ∧ v2 = 0) ∧ w1 = 0 ∧ w2 = 0 ∧ t1 = 0 ∧ t2 = 0 := by
  have bX := A.kvB u1 u2 v1 v2
  have bY := A.kvB w1 w2 t1 t2
  have h1 := h.mul (bX.add ((bY.mul A.bc).neg))
  have h2 := A.sc.mul (bY.mul bY)
  have h3 := A.kvM u1 u2 v1 v2 u1 u2 v1 v2
  have h4 := (A.kvM w1 w2 t1 t2 w1 w2 t1 t2).mul (Bd.const 5)
  have h5 : Sm fun j => (u1 * u1 + 2 * (u2 * u2) + 3 * (v1 * v1 + 2 * (v2 * v2)) - 5 * (w1 * w1 + 2 * (w2 * w2) + 3 * (t1 * t1 + 2 * (t2 * t2))) + (2 * (u1 * u2 + 3 * (v1 * v2) - 5 * (w1 * w2 + 3 * (t1 * t2)))) * a j) +
      (2 * (u1 * v1 + 2 * (u2 * v2) - 5 * (w1 * t1 + 2 * (w2 * t2))) + (2 * (u1 * v2 + u2 * v1 - 5 * (w1 * t2 + w2 * t1))) * a j) * b j := by
    refine (((h1.add h2).sub h3).add h4).congr fun j => ?_
    simp only [kv]
    generalize a j = p; generalize b j = q; generalize c j = r
    grind
  obtain ⟨⟨e1, e2⟩, e3, e4⟩ := A.two h5
  have f5 : ((5 : Nat) : Rat) = 5 := rfl
  exact A2 (n := 5) sq5 sq10 sq15 sq30 (by grind) (by grind) (by grind) (by grind)
theorem sq1009 : ¬isq 1009 := not_sq (by decide) (by decide +kernel)
theorem sq2018 : ¬isq (2 * 1009) := not_sq (by decide) (by decide +kernel)
theorem sq3027 : ¬isq (3 * 1009) := not_sq (by decide) (by decide +kernel)
theorem sq6054 : ¬isq (2 * (3 * 1009)) := not_sq (by decide) (by decide +kernel)
theorem sq5045 : ¬isq 5045 := not_sq (by decide) (by decide +kernel)
theorem sq10090 : ¬isq (2 * 5045) := not_sq (by decide) (by decide +kernel)
theorem sq15135 : ¬isq (3 * 5045) := not_sq (by decide) (by decide +kernel)
theorem sq30270 : ¬isq (2 * (3 * 5045)) := not_sq (by decide) (by decide +kernel)
theorem Apx.four (A : Apx a b c d) {u1 u2 v1 v2 w1 w2 t1 t2 z : Rat} (h : Sm fun j => kv a b u1 u2 v1 v2 j + kv a b w1 w2 t1 t2 j * c j + z * d j) :
    (u1 = 0 ∧ u2 = 0 ∧ v1 = 0 ∧ v2 = 0) ∧ (w1 = 0 ∧ w2 = 0 ∧ t1 = 0 ∧ t2 = 0) ∧ z = 0 := by
  have hz : z = 0 := by
    have bX := A.kvB u1 u2 v1 v2
    have bY := A.kvB w1 w2 t1 t2
    have h1 := h.mul ((bX.add (bY.mul A.bc)).add (((Bd.const z).mul A.bd).neg))
    have h2 := A.sd.mul (Bd.const (z * z))
    have h3 := A.kvM u1 u2 v1 v2 u1 u2 v1 v2
    have h4 := (A.kvM w1 w2 t1 t2 w1 w2 t1 t2).mul (Bd.const 5)
    have h5 := A.sc.mul (bY.mul bY)
    have h6 := (A.kvM u1 u2 v1 v2 w1 w2 t1 t2).mul ((Bd.const 2).mul A.bc)
    have h7 : Sm fun j => kv a b (u1 * u1 + 2 * (u2 * u2) + 3 * (v1 * v1 + 2 * (v2 * v2)) + 5 * (w1 * w1 + 2 * (w2 * w2) + 3 * (t1 * t1 + 2 * (t2 * t2))) - 1009 * (z * z))
        (2 * (u1 * u2 + 3 * (v1 * v2)) + 10 * (w1 * w2 + 3 * (t1 * t2))) (2 * (u1 * v1 + 2 * (u2 * v2)) + 10 * (w1 * t1 + 2 * (w2 * t2))) (2 * (u1 * v2 + u2 * v1) + 10 * (w1 * t2 + w2 * t1)) j +
        kv a b (2 * (u1 * w1 + 2 * (u2 * w2) + 3 * (v1 * t1 + 2 * (v2 * t2)))) (2 * (u1 * w2 + u2 * w1 + 3 * (v1 * t2 + v2 * t1))) (2 * (u1 * t1 + 2 * (u2 * t2) + (v1 * w1 + 2 * (v2 * w2)))) (2 * (u1 * t2 + u2 * t1 + (v1 * w2 + v2 * w1))) j * c j := by
      refine (((((h1.add h2).sub h3).sub h4).sub h5).sub h6).congr fun j => ?_
      simp only [kv]
      generalize a j = p; generalize b j = q; generalize c j = r; generalize d j = s
      grind
    obtain ⟨⟨e1, e2, e3, e4⟩, e5, e6, e7, e8⟩ := A.three h7
    rcases ND2 (u1 := u1) (u2 := u2) (v1 := v1) (v2 := v2) (w1 := w1) (w2 := w2) (t1 := t1) (t2 := t2) (by grind) (by grind) (by grind) (by grind) with ⟨rfl, rfl, rfl, rfl⟩ | ⟨rfl, rfl, rfl, rfl⟩
    · have f : ((5045 : Nat) : Rat) = 5045 := rfl
      exact (A2 (n := 5045) sq5045 sq10090 sq15135 sq30270 (u1 := 5 * w1) (u2 := 5 * w2) (v1 := 5 * t1) (v2 := 5 * t2) (w1 := z) (w2 := 0) (t1 := 0) (t2 := 0) (by grind) (by grind) (by grind) (by grind)).2.1
    · have f : ((1009 : Nat) : Rat) = 1009 := rfl
      exact (A2 (n := 1009) sq1009 sq2018 sq3027 sq6054 (u1 := u1) (u2 := u2) (v1 := v1) (v2 := v2) (w1 := z) (w2 := 0) (t1 := 0) (t2 := 0) (by grind) (by grind) (by grind) (by grind)).2.1
  subst hz
  have h2 : Sm fun j => kv a b u1 u2 v1 v2 j + kv a b w1 w2 t1 t2 j * c j := h.congr fun j => by grind
  obtain ⟨f1, f2⟩ := A.three h2
  exact ⟨f1, f2, rfl⟩
end Go.Ar

/-
  SURD: sums of independent roots, approximated at one scale, are not small: with numbers. Own work.
-/
namespace Go.Ar.At
open Go.Ar Go.Proofs

/-- x is at most C / N; at most C; a multiple of 1 / D -/
def Sm (N C : Nat) (x : Rat) : Prop := x * N ≤ C ∧ -(C : Rat) ≤ x * N
def Bd (C : Nat) (x : Rat) : Prop := x ≤ C ∧ -(C : Rat) ≤ x
def Dn (D : Nat) (x : Rat) : Prop := ∃ m : Int, x * D = m
variable {N C E D : Nat} {x y : Rat}
theorem Sm.add (hx : Sm N C x) (hy : Sm N E y) : Sm N (C + E) (x + y) := by
  unfold Sm at *; rw [cast_add]; constructor <;> grind
theorem Sm.sub (hx : Sm N C x) (hy : Sm N E y) : Sm N (C + E) (x - y) := by
  unfold Sm at *; rw [cast_add]; constructor <;> grind
theorem Sm.neg (hx : Sm N C x) : Sm N C (-x) := by unfold Sm at *; constructor <;> grind
theorem Sm.congr (hx : Sm N C x) (h : y = x) : Sm N C y := by rw [h]; exact hx
theorem Sm.le (hx : Sm N C x) (h : C ≤ E) : Sm N E x := by
  have := Rat.natCast_le_natCast.2 h
  unfold Sm at *; constructor <;> grind
theorem Bd.add (hx : Bd C x) (hy : Bd E y) : Bd (C + E) (x + y) := by
  unfold Bd at *; rw [cast_add]; constructor <;> grind
theorem Bd.sub (hx : Bd C x) (hy : Bd E y) : Bd (C + E) (x - y) := by
  unfold Bd at *; rw [cast_add]; constructor <;> grind
theorem Bd.neg (hx : Bd C x) : Bd C (-x) := by unfold Bd at *; constructor <;> grind
theorem Bd.le (hx : Bd C x) (h : C ≤ E) : Bd E x := by
  have := Rat.natCast_le_natCast.2 h
  unfold Bd at *; constructor <;> grind
theorem Sm.mul (hx : Sm N C x) (hy : Bd E y) : Sm N (C * E) (x * y) := by
  have := prod_le hx.1 hx.2 hy.1 hy.2
  unfold Sm; rw [cast_mul]
  have e : x * y * (N : Rat) = x * (N : Rat) * y := by grind
  rw [e]; exact this
theorem Bd.mul (hx : Bd C x) (hy : Bd E y) : Bd (C * E) (x * y) := by
  unfold Bd; rw [cast_mul]; exact prod_le hx.1 hx.2 hy.1 hy.2
theorem Bd.nat (n : Nat) : Bd n (n : Rat) := by
  have := nat_nonneg n
  unfold Bd; constructor <;> grind
theorem Dn.add (hx : Dn D x) (hy : Dn D y) : Dn D (x + y) := by
  obtain ⟨m, hm⟩ := hx; obtain ⟨n, hn⟩ := hy
  exact ⟨m + n, by rw [Rat.intCast_add, ← hm, ← hn]; grind⟩
theorem Dn.sub (hx : Dn D x) (hy : Dn D y) : Dn D (x - y) := by
  obtain ⟨m, hm⟩ := hx; obtain ⟨n, hn⟩ := hy
  exact ⟨m - n, by rw [Rat.intCast_sub, ← hm, ← hn]; grind⟩
theorem Dn.mul (hx : Dn D x) (hy : Dn E y) : Dn (D * E) (x * y) := by
  obtain ⟨m, hm⟩ := hx; obtain ⟨n, hn⟩ := hy
  exact ⟨m * n, by rw [Rat.intCast_mul, cast_mul, ← hm, ← hn]; grind⟩
theorem Dn.smul (k : Nat) (hx : Dn D x) : Dn D ((k : Rat) * x) := by
  obtain ⟨m, hm⟩ := hx
  exact ⟨k * m, by rw [Rat.intCast_mul, ← hm]; show _ = (k : Rat) * _; grind⟩
theorem Sm.zero (hx : Sm N C x) (hd : Dn D x) (hD : 0 < D) (h : C * D < N) : x = 0 := by
  obtain ⟨m, hm⟩ := hd
  have hDp := nat_ne hD
  have hlt : ((C * D : Nat) : Rat) < (N : Rat) := Rat.natCast_lt_natCast.2 h
  rw [cast_mul] at hlt
  have hDn := nat_nonneg D
  have hNn := nat_nonneg N
  have p1 := Rat.mul_nonneg (show 0 ≤ (C : Rat) - x * N by have := hx.1; grind) hDn
  have p2 := Rat.mul_nonneg (show 0 ≤ (C : Rat) + x * N by have := hx.2; grind) hDn
  have b1 : (m : Rat) * N < N := by rw [← hm]; grind
  have b2 : -(N : Rat) < (m : Rat) * N := by rw [← hm]; grind
  have h1 : m < 1 := by
    refine Int.not_le.1 fun h1 => ?_
    have := Rat.mul_nonneg (show 0 ≤ (m : Rat) - 1 by have : ((1 : Int) : Rat) ≤ (m : Rat) := Rat.intCast_le_intCast.2 h1; have e : ((1 : Int) : Rat) = 1 := rfl; grind) hNn
    grind
  have h2 : -1 < m := by
    refine Int.not_le.1 fun h1 => ?_
    have := Rat.mul_nonneg (show 0 ≤ -1 - (m : Rat) by have : (m : Rat) ≤ ((-1 : Int) : Rat) := Rat.intCast_le_intCast.2 h1; have e : ((-1 : Int) : Rat) = -1 := rfl; grind) hNn
    grind
  have h0 : m = 0 := by omega
  rw [h0] at hm
  have e : x * (D : Rat) = 0 := hm
  exact (rmul_zero e).resolve_right hDp

/-- approximations of the roots of 2, 3, 5, 1009 at the scale N -/
structure Ap (N : Nat) (a b c d : Rat) : Prop where
  ba : Bd 2 a
  bb : Bd 2 b
  bc : Bd 3 c
  bd : Bd 32 d
  sa : Sm N 4 (a * a - 2)
  sb : Sm N 4 (b * b - 3)
  sc : Sm N 6 (c * c - 5)
  sd : Sm N 64 (d * d - 1009)
variable {a b c d : Rat} {M : Nat}
def o1 (C M : Nat) : Nat := C * (M + M * 2) + 4 * (M * M)
theorem Ap.one (A : Ap N a b c d) {x1 x2 : Rat} (h : Sm N C (x1 + x2 * a)) (b1 : Bd M x1) (b2 : Bd M x2) (d1 : Dn D x1) (d2 : Dn D x2) (hD : 0 < D) (hN : o1 C M * (D * D) < N) : x1 = 0 ∧ x2 = 0 := by
  have h1 := h.mul (b1.sub (b2.mul A.ba))
  have h2 := A.sa.mul (b2.mul b2)
  have h3 : Sm N _ (x1 * x1 - 2 * (x2 * x2)) := (h1.add h2).congr (by grind)
  have dn : Dn (D * D) (x1 * x1 - 2 * (x2 * x2)) := (d1.mul d1).sub ((d2.mul d2).smul 2)
  have e := h3.zero dn (Nat.mul_pos hD hD) hN
  exact A0 sq2 (by have : ((2 : Nat) : Rat) = 2 := rfl; grind)
def kv (a b u1 u2 v1 v2 : Rat) : Rat := (u1 + u2 * a) + (v1 + v2 * a) * b
def c2 (C M : Nat) : Nat := C * ((M + M * 2) + (M + M * 2) * 2) + 4 * ((M + M * 2) * (M + M * 2)) + 4 * (3 * (M * M) + M * M)
def m2 (M : Nat) : Nat := 12 * (M * M)
/-- four coordinates with bounds -/
structure Co (M D : Nat) (u1 u2 v1 v2 : Rat) : Prop where
  b1 : Bd M u1
  b2 : Bd M u2
  b3 : Bd M v1
  b4 : Bd M v2
  d1 : Dn D u1
  d2 : Dn D u2
  d3 : Dn D v1
  d4 : Dn D v2
theorem Bd.smul (k : Nat) (hx : Bd C x) : Bd (k * C) ((k : Rat) * x) := (Bd.nat k).mul hx
theorem Ap.two (A : Ap N a b c d) {u1 u2 v1 v2 : Rat} (h : Sm N C (kv a b u1 u2 v1 v2)) (k : Co M D u1 u2 v1 v2) (hD : 0 < D) (hN : o1 (c2 C M) (m2 M) * (D * D * (D * D)) < N) : (u1 = 0 ∧ u2 = 0) ∧ v1 = 0 ∧ v2 = 0 := by
  have bU := k.b1.add (k.b2.mul A.ba)
  have bV := k.b3.add (k.b4.mul A.ba)
  have h1 := h.mul (bU.sub (bV.mul A.bb))
  have h2 := A.sb.mul (bV.mul bV)
  have h3 := A.sa.mul (((k.b4.mul k.b4).smul 3).sub (k.b2.mul k.b2))
  have h4 : Sm N (c2 C M) ((u1 * u1 + 2 * (u2 * u2) - 3 * (v1 * v1 + 2 * (v2 * v2))) + (2 * (u1 * u2 - 3 * (v1 * v2))) * a) := ((h1.add h2).add h3).congr (by unfold kv; have : ((3 : Nat) : Rat) = 3 := rfl; rw [this]; grind)
  have q1 : Bd (m2 M) (u1 * u1 + 2 * (u2 * u2) - 3 * (v1 * v1 + 2 * (v2 * v2))) :=
    (((k.b1.mul k.b1).add ((k.b2.mul k.b2).smul 2)).sub (((k.b3.mul k.b3).add ((k.b4.mul k.b4).smul 2)).smul 3)).le (by unfold m2; generalize M * M = q; omega)
  have q2 : Bd (m2 M) (2 * (u1 * u2 - 3 * (v1 * v2))) := (((k.b1.mul k.b2).sub ((k.b3.mul k.b4).smul 3)).smul 2).le (by unfold m2; generalize M * M = q; omega)
  have n1 : Dn (D * D) (u1 * u1 + 2 * (u2 * u2) - 3 * (v1 * v1 + 2 * (v2 * v2))) := ((k.d1.mul k.d1).add ((k.d2.mul k.d2).smul 2)).sub (((k.d3.mul k.d3).add ((k.d4.mul k.d4).smul 2)).smul 3)
  have n2 : Dn (D * D) (2 * (u1 * u2 - 3 * (v1 * v2))) := ((k.d1.mul k.d2).sub ((k.d3.mul k.d4).smul 3)).smul 2
  obtain ⟨e1, e2⟩ := A.one h4 q1 q2 n1 n2 (Nat.mul_pos hD hD) hN
  exact A1 (n := 3) sq3 sq6 (by have : ((3 : Nat) : Rat) = 3 := rfl; grind) (by have : ((3 : Nat) : Rat) = 3 := rfl; grind)
theorem Ap.kvB (A : Ap N a b c d) {u1 u2 v1 v2 : Rat} (k : Co M D u1 u2 v1 v2) : Bd (9 * M) (kv a b u1 u2 v1 v2) :=
  ((k.b1.add (k.b2.mul A.ba)).add ((k.b3.add (k.b4.mul A.ba)).mul A.bb)).le (by omega)
/-- the coordinates of a product -/
def mu1 (u1 u2 v1 v2 w1 w2 t1 t2 : Rat) : Rat := u1 * w1 + 2 * (u2 * w2) + 3 * (v1 * t1 + 2 * (v2 * t2))
def mu2 (u1 u2 v1 v2 w1 w2 t1 t2 : Rat) : Rat := u1 * w2 + u2 * w1 + 3 * (v1 * t2 + v2 * t1)
def mu3 (u1 u2 v1 v2 w1 w2 t1 t2 : Rat) : Rat := u1 * t1 + 2 * (u2 * t2) + (v1 * w1 + 2 * (v2 * w2))
def mu4 (u1 u2 v1 v2 w1 w2 t1 t2 : Rat) : Rat := u1 * t2 + u2 * t1 + (v1 * w2 + v2 * w1)
theorem Ap.kvM (A : Ap N a b c d) {u1 u2 v1 v2 w1 w2 t1 t2 : Rat} (k : Co M D u1 u2 v1 v2) (l : Co M D w1 w2 t1 t2) :
    Sm N (68 * (M * M)) (kv a b u1 u2 v1 v2 * kv a b w1 w2 t1 t2 - kv a b (mu1 u1 u2 v1 v2 w1 w2 t1 t2) (mu2 u1 u2 v1 v2 w1 w2 t1 t2) (mu3 u1 u2 v1 v2 w1 w2 t1 t2) (mu4 u1 u2 v1 v2 w1 w2 t1 t2)) := by
  have h2 := A.sb.mul ((k.b3.add (k.b4.mul A.ba)).mul (l.b3.add (l.b4.mul A.ba)))
  have h3 := A.sa.mul (((k.b2.mul l.b2).add ((k.b4.mul l.b4).smul 3)).add (((k.b2.mul l.b4).add (k.b4.mul l.b2)).mul A.bb))
  refine ((h2.add h3).congr (y := _) (by unfold kv mu1 mu2 mu3 mu4; have : ((3 : Nat) : Rat) = 3 := rfl; rw [this]; grind)).le ?_
  have e : (M + M * 2) * (M + M * 2) = 9 * (M * M) := by grind
  rw [e]; generalize M * M = q; omega
theorem Co.mul {u1 u2 v1 v2 w1 w2 t1 t2 : Rat} (k : Co M D u1 u2 v1 v2) (l : Co M D w1 w2 t1 t2) : Co (12 * (M * M)) (D * D) (mu1 u1 u2 v1 v2 w1 w2 t1 t2) (mu2 u1 u2 v1 v2 w1 w2 t1 t2) (mu3 u1 u2 v1 v2 w1 w2 t1 t2) (mu4 u1 u2 v1 v2 w1 w2 t1 t2) where
  b1 := (((k.b1.mul l.b1).add ((k.b2.mul l.b2).smul 2)).add (((k.b3.mul l.b3).add ((k.b4.mul l.b4).smul 2)).smul 3)).le (by generalize M * M = q; omega)
  b2 := (((k.b1.mul l.b2).add (k.b2.mul l.b1)).add (((k.b3.mul l.b4).add (k.b4.mul l.b3)).smul 3)).le (by generalize M * M = q; omega)
  b3 := (((k.b1.mul l.b3).add ((k.b2.mul l.b4).smul 2)).add ((k.b3.mul l.b1).add ((k.b4.mul l.b2).smul 2))).le (by generalize M * M = q; omega)
  b4 := (((k.b1.mul l.b4).add (k.b2.mul l.b3)).add ((k.b3.mul l.b2).add (k.b4.mul l.b1))).le (by generalize M * M = q; omega)
  d1 := ((k.d1.mul l.d1).add ((k.d2.mul l.d2).smul 2)).add (((k.d3.mul l.d3).add ((k.d4.mul l.d4).smul 2)).smul 3)
  d2 := ((k.d1.mul l.d2).add (k.d2.mul l.d1)).add (((k.d3.mul l.d4).add (k.d4.mul l.d3)).smul 3)
  d3 := ((k.d1.mul l.d3).add ((k.d2.mul l.d4).smul 2)).add ((k.d3.mul l.d1).add ((k.d4.mul l.d2).smul 2))
  d4 := ((k.d1.mul l.d4).add (k.d2.mul l.d3)).add ((k.d3.mul l.d2).add (k.d4.mul l.d1))
theorem Co.add {P Q : Nat} {u1 u2 v1 v2 w1 w2 t1 t2 : Rat} (k : Co P D u1 u2 v1 v2) (l : Co Q D w1 w2 t1 t2) : Co (P + Q) D (u1 + w1) (u2 + w2) (v1 + t1) (v2 + t2) :=
  ⟨k.b1.add l.b1, k.b2.add l.b2, k.b3.add l.b3, k.b4.add l.b4, k.d1.add l.d1, k.d2.add l.d2, k.d3.add l.d3, k.d4.add l.d4⟩
theorem Co.sub {P Q : Nat} {u1 u2 v1 v2 w1 w2 t1 t2 : Rat} (k : Co P D u1 u2 v1 v2) (l : Co Q D w1 w2 t1 t2) : Co (P + Q) D (u1 - w1) (u2 - w2) (v1 - t1) (v2 - t2) :=
  ⟨k.b1.sub l.b1, k.b2.sub l.b2, k.b3.sub l.b3, k.b4.sub l.b4, k.d1.sub l.d1, k.d2.sub l.d2, k.d3.sub l.d3, k.d4.sub l.d4⟩
theorem Co.smul (n : Nat) {u1 u2 v1 v2 : Rat} (k : Co M D u1 u2 v1 v2) : Co (n * M) D (n * u1) (n * u2) (n * v1) (n * v2) :=
  ⟨k.b1.smul n, k.b2.smul n, k.b3.smul n, k.b4.smul n, k.d1.smul n, k.d2.smul n, k.d3.smul n, k.d4.smul n⟩
theorem Co.le {P Q : Nat} {u1 u2 v1 v2 : Rat} (k : Co P D u1 u2 v1 v2) (h : P ≤ Q) : Co Q D u1 u2 v1 v2 := ⟨k.b1.le h, k.b2.le h, k.b3.le h, k.b4.le h, k.d1, k.d2, k.d3, k.d4⟩
def c3 (C M : Nat) : Nat := C * (36 * M) + 2000 * (M * M)
def m3 (M : Nat) : Nat := 72 * (M * M)
theorem Ap.three (A : Ap N a b c d) {u1 u2 v1 v2 w1 w2 t1 t2 : Rat} (h : Sm N C (kv a b u1 u2 v1 v2 + kv a b w1 w2 t1 t2 * c)) (k : Co M D u1 u2 v1 v2) (l : Co M D w1 w2 t1 t2) (hD : 0 < D)
    (hN : o1 (c2 (c3 C M) (m3 M)) (m2 (m3 M)) * ((D * D) * (D * D) * ((D * D) * (D * D))) < N) :
    (u1 = 0 ∧ u2 = 0 ∧ v1 = 0 ∧ v2 = 0) ∧ w1 = 0 ∧ w2 = 0 ∧ t1 = 0 ∧ t2 = 0 := by
  have bX := A.kvB k
  have bY := A.kvB l
  have h1 := h.mul (bX.sub (bY.mul A.bc))
  have h2 := A.sc.mul (bY.mul bY)
  have h3 := A.kvM k k
  have h4 := (A.kvM l l).mul (Bd.nat 5)
  have h5 : Sm N (c3 C M) (kv a b (mu1 u1 u2 v1 v2 u1 u2 v1 v2 - (5 : Nat) * mu1 w1 w2 t1 t2 w1 w2 t1 t2) (mu2 u1 u2 v1 v2 u1 u2 v1 v2 - (5 : Nat) * mu2 w1 w2 t1 t2 w1 w2 t1 t2) (mu3 u1 u2 v1 v2 u1 u2 v1 v2 - (5 : Nat) * mu3 w1 w2 t1 t2 w1 w2 t1 t2) (mu4 u1 u2 v1 v2 u1 u2 v1 v2 - (5 : Nat) * mu4 w1 w2 t1 t2 w1 w2 t1 t2)) := by
    refine ((((h1.add h2).sub h3).add h4).congr (y := _) ?_).le ?_
    · have : ((5 : Nat) : Rat) = 5 := rfl
      rw [this]
      simp only [kv, mu1, mu2, mu3, mu4]
      grind
    · have e1 : (9 * M) * (9 * M) = 81 * (M * M) := by grind
      have e2 : 9 * M + 9 * M * 3 = 36 * M := by omega
      unfold c3
      rw [e1, e2]; generalize M * M = q; generalize C * (36 * M) = r; omega
  have hk : Co (m3 M) (D * D) _ _ _ _ := ((k.mul k).sub ((l.mul l).smul 5)).le (by unfold m3; generalize M * M = q; omega)
  obtain ⟨⟨e1, e2⟩, e3, e4⟩ := A.two h5 hk (Nat.mul_pos hD hD) hN
  have f5 : ((5 : Nat) : Rat) = 5 := rfl
  rw [f5] at e1 e2 e3 e4
  simp only [mu1, mu2, mu3, mu4] at e1 e2 e3 e4
  clear h h1 h2 h3 h4 h5 hk bX bY
  exact A2 (n := 5) sq5 sq10 sq15 sq30 (by grind) (by grind) (by grind) (by grind)
def c4 (C M : Nat) : Nat := C * (68 * M) + 3000 * (M * M)
def m4 (M : Nat) : Nat := 1100 * (M * M)
theorem Ap.four (A : Ap N a b c d) {u1 u2 v1 v2 w1 w2 t1 t2 z : Rat} (h : Sm N C (kv a b u1 u2 v1 v2 + kv a b w1 w2 t1 t2 * c + z * d)) (k : Co M D u1 u2 v1 v2) (l : Co M D w1 w2 t1 t2) (bz : Bd M z) (dz : Dn D z) (hD : 0 < D)
    (hN : o1 (c2 (c3 (c4 C M) (m4 M)) (m3 (m4 M))) (m2 (m3 (m4 M))) * (((D * D) * (D * D)) * ((D * D) * (D * D)) * (((D * D) * (D * D)) * ((D * D) * (D * D)))) < N)
    (hN2 : o1 (c2 (c3 C M) (m3 M)) (m2 (m3 M)) * ((D * D) * (D * D) * ((D * D) * (D * D))) < N) :
    (u1 = 0 ∧ u2 = 0 ∧ v1 = 0 ∧ v2 = 0) ∧ (w1 = 0 ∧ w2 = 0 ∧ t1 = 0 ∧ t2 = 0) ∧ z = 0 := by
  have hz : z = 0 := by
    have bX := A.kvB k
    have bY := A.kvB l
    have h1 := h.mul ((bX.add (bY.mul A.bc)).sub (bz.mul A.bd))
    have h2 := A.sd.mul (bz.mul bz)
    have h3 := A.kvM k k
    have h4 := (A.kvM l l).mul (Bd.nat 5)
    have h5 := A.sc.mul (bY.mul bY)
    have h6 := (A.kvM k l).mul ((Bd.nat 2).mul A.bc)
    have f5 : ((5 : Nat) : Rat) = 5 := rfl
    have f2 : ((2 : Nat) : Rat) = 2 := rfl
    have f9 : ((1009 : Nat) : Rat) = 1009 := rfl
    have h7 : Sm N (c4 C M) (kv a b (mu1 u1 u2 v1 v2 u1 u2 v1 v2 + (5 : Nat) * mu1 w1 w2 t1 t2 w1 w2 t1 t2 - (1009 : Nat) * (z * z)) (mu2 u1 u2 v1 v2 u1 u2 v1 v2 + (5 : Nat) * mu2 w1 w2 t1 t2 w1 w2 t1 t2 - (1009 : Nat) * (0 * z)) (mu3 u1 u2 v1 v2 u1 u2 v1 v2 + (5 : Nat) * mu3 w1 w2 t1 t2 w1 w2 t1 t2 - (1009 : Nat) * (0 * z)) (mu4 u1 u2 v1 v2 u1 u2 v1 v2 + (5 : Nat) * mu4 w1 w2 t1 t2 w1 w2 t1 t2 - (1009 : Nat) * (0 * z)) +
        kv a b ((2 : Nat) * mu1 u1 u2 v1 v2 w1 w2 t1 t2) ((2 : Nat) * mu2 u1 u2 v1 v2 w1 w2 t1 t2) ((2 : Nat) * mu3 u1 u2 v1 v2 w1 w2 t1 t2) ((2 : Nat) * mu4 u1 u2 v1 v2 w1 w2 t1 t2) * c) := by
      refine ((((((h1.add h2).sub h3).sub h4).sub h5).sub h6).congr (y := _) ?_).le ?_
      · rw [f5, f2, f9]
        simp only [kv, mu1, mu2, mu3, mu4]
        grind
      · have e1 : (9 * M) * (9 * M) = 81 * (M * M) := by grind
        have e2 : 9 * M + 9 * M * 3 + M * 32 = 68 * M := by omega
        unfold c4
        rw [e1, e2]; generalize M * M = q; generalize C * (68 * M) = r; omega
    have zz : Co (1009 * (M * M)) (D * D) ((1009 : Nat) * (z * z)) ((1009 : Nat) * (0 * z)) ((1009 : Nat) * (0 * z)) ((1009 : Nat) * (0 * z)) := by
      have b0 : Bd M 0 := ⟨nat_nonneg M, by have := nat_nonneg M; grind⟩
      have d0 : Dn D 0 := ⟨0, by rw [Rat.zero_mul]; rfl⟩
      exact Co.smul 1009 ⟨bz.mul bz, b0.mul bz, b0.mul bz, b0.mul bz, dz.mul dz, d0.mul dz, d0.mul dz, d0.mul dz⟩
    have hk : Co (m4 M) (D * D) _ _ _ _ := (((k.mul k).add ((l.mul l).smul 5)).sub zz).le (by unfold m4; generalize M * M = q; omega)
    have hl : Co (m4 M) (D * D) _ _ _ _ := ((k.mul l).smul 2).le (by unfold m4; generalize M * M = q; omega)
    obtain ⟨⟨e1, e2, e3, e4⟩, e5, e6, e7, e8⟩ := A.three h7 hk hl (Nat.mul_pos hD hD) hN
    rw [f5, f9] at e1 e2 e3 e4
    rw [f2] at e5 e6 e7 e8
    simp only [mu1, mu2, mu3, mu4] at e1 e2 e3 e4 e5 e6 e7 e8
    clear h h1 h2 h3 h4 h5 h6 h7 hk hl zz bX bY
    rcases ND2 (u1 := u1) (u2 := u2) (v1 := v1) (v2 := v2) (w1 := w1) (w2 := w2) (t1 := t1) (t2 := t2) (by grind) (by grind) (by grind) (by grind) with ⟨rfl, rfl, rfl, rfl⟩ | ⟨rfl, rfl, rfl, rfl⟩
    · have f : ((5045 : Nat) : Rat) = 5045 := rfl
      exact (A2 (n := 5045) sq5045 sq10090 sq15135 sq30270 (u1 := 5 * w1) (u2 := 5 * w2) (v1 := 5 * t1) (v2 := 5 * t2) (w1 := z) (w2 := 0) (t1 := 0) (t2 := 0) (by grind) (by grind) (by grind) (by grind)).2.1
    · have f : ((1009 : Nat) : Rat) = 1009 := rfl
      exact (A2 (n := 1009) sq1009 sq2018 sq3027 sq6054 (u1 := u1) (u2 := u2) (v1 := v1) (v2 := v2) (w1 := z) (w2 := 0) (t1 := 0) (t2 := 0) (by grind) (by grind) (by grind) (by grind)).2.1
  subst hz
  have h2 : Sm N C (kv a b u1 u2 v1 v2 + kv a b w1 w2 t1 t2 * c) := h.congr (by grind)
  obtain ⟨f1, f2⟩ := A.three h2 k l hD hN2
  exact ⟨f1, f2, rfl⟩
end Go.Ar.At

/-
  SURD: whole roots as approximations; a list of terms is not small. Own work.
-/
namespace Go.Ar.At
open Go.Ar Go.Proofs

/-- the root of r at the scale N -/
def qr (N r : Nat) : Rat := (nrt (r * (N * N)) : Rat) / N
/-- the root of a base as a product -/
def mono (N : Nat) : Nat → Rat
  | 2 => qr N 2
  | 3 => qr N 3
  | 6 => qr N 2 * qr N 3
  | 10 => qr N 2 * qr N 5
  | 30 => qr N 2 * qr N 3 * qr N 5
  | 1009 => qr N 1009
  | _ => 1
/-- a sum of terms at a scale, and by its classes -/
def sumQ (N : Nat) : List Tm → Rat
  | [] => 0
  | x :: l => x.1 * qr N x.2 + sumQ N l
def cmb (N : Nat) (c1 c2 c3 c6 c10 c30 c9 : Rat) : Rat := kv (qr N 2) (qr N 3) c1 c2 c3 c6 + kv (qr N 2) (qr N 3) 0 c10 0 c30 * qr N 5 + c9 * qr N 1009
def cmbL (N : Nat) (l : List Tm) : Rat := cmb N (vlB 1 l) (vlB 2 l) (vlB 3 l) (vlB 6 l) (vlB 10 l) (vlB 30 l) (vlB 1009 l)
end Go.Ar.At

/-
  SURD: enclosures of a sum of roots: those of the program and those of the reference meet. Own work.
-/
namespace Go.Ar.At
open Go.Ar Go.Proofs

theorem sq_le {p q : Rat} (hq : 0 ≤ q) (h : p * p ≤ q * q) : p ≤ q := Rat.not_lt.1 fun h2 => by
  have h3 := Rat.mul_pos (show 0 < p - q by grind) (show 0 < p + q by grind)
  grind
/-- bounds of one term -/
def TEnc (x : Tm) (t u : Rat) : Prop := ∃ p q : Rat, 0 ≤ p ∧ 0 ≤ q ∧ p * p ≤ (x.2 : Rat) ∧ (x.2 : Rat) ≤ q * q ∧ ((0 ≤ x.1 ∧ t = x.1 * p ∧ u = x.1 * q) ∨ (x.1 < 0 ∧ t = x.1 * q ∧ u = x.1 * p))
theorem TEnc.cross {x : Tm} {t u t' u' : Rat} (h : TEnc x t u) (h' : TEnc x t' u') : t ≤ u' := by
  obtain ⟨p, q, hp, hq, h1, h2, h3⟩ := h
  obtain ⟨p', q', hp', hq', h1', h2', h3'⟩ := h'
  have a1 := sq_le hq' (show p * p ≤ q' * q' by grind)
  have a2 := sq_le hq (show p' * p' ≤ q * q by grind)
  rcases h3 with ⟨s, rfl, rfl⟩ | ⟨s, rfl, rfl⟩
  · rcases h3' with ⟨s', rfl, rfl⟩ | ⟨s', rfl, rfl⟩
    · have := Rat.mul_nonneg s (show 0 ≤ q' - p by grind); grind
    · grind
  · rcases h3' with ⟨s', rfl, rfl⟩ | ⟨s', rfl, rfl⟩
    · grind
    · have := Rat.mul_nonneg (show 0 ≤ -x.1 by grind) (show 0 ≤ q - p' by grind); grind
/-- bounds of a sum -/
def Enc : List Tm → Rat → Rat → Prop
  | [], lo, hi => lo = 0 ∧ hi = 0
  | x :: l, lo, hi => ∃ t u lo' hi', TEnc x t u ∧ Enc l lo' hi' ∧ lo = t + lo' ∧ hi = u + hi'
theorem Enc.cross : ∀ {l : List Tm} {a b c d : Rat}, Enc l a b → Enc l c d → a ≤ d
  | [], a, b, c, d, h, h' => by rw [h.1, h'.2]; exact Rat.le_refl
  | x :: l, a, b, c, d, ⟨t, u, lo, hi, h1, h2, e1, _⟩, ⟨t', u', lo', hi', h1', h2', _, e2'⟩ => by
    have := h1.cross h1'
    have := Enc.cross h2 h2'
    rw [e1, e2']; grind

/-- the program's bounds -/
theorem den_dvd_F {d : Nat} {x : Tm} (h : 0 < d) : d ∣ denF d x ∧ x.1.den ∣ denF d x := by
  unfold denF
  refine ⟨⟨_, rfl⟩, ?_⟩
  have hg := Nat.gcd_dvd_left d x.1.den
  have hg2 := Nat.gcd_dvd_right d x.1.den
  have hg0 := Nat.gcd_pos_of_pos_left x.1.den h
  obtain ⟨a, ha⟩ := hg
  obtain ⟨b, hb⟩ := hg2
  generalize Nat.gcd d x.1.den = g at *
  rw [hb, Nat.mul_div_cancel_left b hg0, ha]
  exact ⟨a, by grind⟩
theorem den_dvd_L : ∀ {l : List Tm} {d : Nat}, 0 < d → d ∣ l.foldl denF d ∧ ∀ x ∈ l, x.1.den ∣ l.foldl denF d
  | [], d, _ => ⟨Nat.dvd_refl _, fun x hx => (by cases hx)⟩
  | x :: l, d, h => by
    obtain ⟨h1, h2⟩ := den_dvd_L (l := l) (denF_pos (x := x) h)
    obtain ⟨h3, h4⟩ := den_dvd_F (x := x) h
    refine ⟨Nat.dvd_trans h3 h1, fun y hy => ?_⟩
    rcases List.mem_cons.1 hy with rfl | hy
    · exact Nat.dvd_trans h4 h1
    · exact h2 y hy
theorem den_dvd {l : List Tm} {x : Tm} (hx : x ∈ l) : x.1.den ∣ denL l := (den_dvd_L (l := l) (d := 1) (by decide)).2 x hx
theorem kf {x : Rat} {d : Nat} (h : x.den ∣ d) : ((((d / x.den : Nat) : Int) * x.num : Int) : Rat) = (d : Rat) * x := by
  obtain ⟨k, rfl⟩ := h
  rw [Nat.mul_div_cancel_left k x.den_pos, Rat.intCast_mul, num_eq x]
  show (k : Rat) * _ = _
  rw [cast_mul]; grind
theorem kf_neg {x : Rat} {d : Nat} (h : x.den ∣ d) (hd : 0 < d) : ((d / x.den : Nat) : Int) * x.num < 0 ↔ x < 0 := by
  have e := kf h
  have h1 : ((((d / x.den : Nat) : Int) * x.num : Int) : Rat) < ((0 : Int) : Rat) ↔ ((d / x.den : Nat) : Int) * x.num < 0 := Rat.intCast_lt_intCast
  rw [← h1, e]
  have hdp : (0 : Rat) < d := Rat.natCast_pos.2 hd
  constructor
  · intro h2
    refine Rat.not_le.1 fun h3 => ?_
    have := Rat.mul_nonneg (show (0 : Rat) ≤ d by grind) h3
    have h4 : (d : Rat) * x < 0 := h2
    grind
  · intro h2
    have := Rat.mul_pos hdp (show 0 < -x by grind)
    show (d : Rat) * x < 0
    grind
/-- one term at a scale -/
theorem tenc_prog {N : Nat} (hN : 0 < N) (x : Tm) : ∃ t u : Rat, TEnc x t u ∧ (if x.1 < 0 then t = x.1 * ((upR (x.2 * (N * N)) : Nat) / (N : Rat)) ∧ u = x.1 * qr N x.2 else t = x.1 * qr N x.2 ∧ u = x.1 * ((upR (x.2 * (N * N)) : Nat) / (N : Rat))) := by
  obtain ⟨h1, h2⟩ := nrt_spec (x.2 * (N * N))
  have hNp := nat_ne hN
  have hN0 : (0 : Rat) < N := Rat.natCast_pos.2 hN
  have key : ∀ A n : Rat, n ≠ 0 → A / n * n = A := fun A n h => by grind
  have eq1 : qr N x.2 * N = ((nrt (x.2 * (N * N)) : Nat) : Rat) := key _ _ hNp
  have eq2 : ((upR (x.2 * (N * N)) : Nat) : Rat) / N * N = ((upR (x.2 * (N * N)) : Nat) : Rat) := key _ _ hNp
  have hp : 0 ≤ qr N x.2 := Rat.not_lt.1 fun h => by
    have h3 := Rat.mul_pos (show 0 < -qr N x.2 by grind) hN0
    have h4 := nat_nonneg (nrt (x.2 * (N * N)))
    rw [← eq1] at h4
    grind
  have hu : x.2 * (N * N) ≤ upR (x.2 * (N * N)) * upR (x.2 * (N * N)) := by
    unfold upR
    split
    · rename_i hq; unfold isq at hq; omega
    · omega
  have c1 : ((nrt (x.2 * (N * N)) : Nat) : Rat) * (nrt (x.2 * (N * N)) : Nat) ≤ (x.2 : Rat) * ((N : Rat) * N) := by rw [← cast_mul, ← cast_mul, ← cast_mul]; exact Rat.natCast_le_natCast.2 h1
  have c2 : (x.2 : Rat) * ((N : Rat) * N) ≤ ((upR (x.2 * (N * N)) : Nat) : Rat) * (upR (x.2 * (N * N)) : Nat) := by rw [← cast_mul, ← cast_mul, ← cast_mul]; exact Rat.natCast_le_natCast.2 hu
  have hq : 0 ≤ ((upR (x.2 * (N * N)) : Nat) : Rat) / N := Rat.not_lt.1 fun h => by
    have h3 := Rat.mul_pos (show 0 < -(((upR (x.2 * (N * N)) : Nat) : Rat) / N) by grind) hN0
    have h4 := nat_nonneg (upR (x.2 * (N * N)))
    rw [← eq2] at h4
    grind
  generalize qr N x.2 = p at *
  generalize ((upR (x.2 * (N * N)) : Nat) : Rat) / N = q at *
  rw [← eq1] at c1
  rw [← eq2] at c2
  have d1 : p * p ≤ (x.2 : Rat) := Rat.not_lt.1 fun h => by
    have := Rat.mul_pos (Rat.mul_pos (show 0 < p * p - (x.2 : Rat) by grind) hN0) hN0
    grind
  have d2 : (x.2 : Rat) ≤ q * q := Rat.not_lt.1 fun h => by
    have := Rat.mul_pos (Rat.mul_pos (show 0 < (x.2 : Rat) - q * q by grind) hN0) hN0
    grind
  by_cases hneg : x.1 < 0
  · exact ⟨_, _, ⟨p, q, hp, hq, d1, d2, .inr ⟨hneg, rfl, rfl⟩⟩, by rw [if_pos hneg]; exact ⟨rfl, rfl⟩⟩
  · exact ⟨_, _, ⟨p, q, hp, hq, d1, d2, .inl ⟨by grind, rfl, rfl⟩⟩, by rw [if_neg hneg]; exact ⟨rfl, rfl⟩⟩

/-- the program's bounds of a sum: they enclose it, and they are narrow -/
theorem enc_fold {N D : Nat} (hN : 0 < N) (hD : 0 < D) {m : Nat} : ∀ {l : List Tm} {p : Int × Int}, (∀ x ∈ l, x.1.den ∣ D ∧ Bd m x.1) →
    ∃ lo hi : Rat, Enc l lo hi ∧ ((l.foldl (encF D (N * N)) p).1 : Rat) = p.1 + lo * (D * N) ∧ ((l.foldl (encF D (N * N)) p).2 : Rat) = p.2 + hi * (D * N) ∧ lo ≤ sumQ N l ∧ sumQ N l ≤ hi ∧ (hi - lo) * N ≤ ((m * l.length : Nat) : Rat)
  | [], p, _ => ⟨0, 0, ⟨rfl, rfl⟩, by rw [Rat.zero_mul, Rat.add_zero]; rfl, by rw [Rat.zero_mul, Rat.add_zero]; rfl, Rat.le_refl, Rat.le_refl, by
      have e : ((0 : Rat) - 0) * N = 0 := by grind
      rw [e]; exact nat_nonneg _⟩
  | x :: l, p, h => by
    obtain ⟨hd, hm⟩ := h x (List.mem_cons_self ..)
    obtain ⟨lo, hi, h1, h2, h3, h4, h5, h6⟩ := enc_fold hN hD (l := l) (p := encF D (N * N) p x) (m := m) fun y hy => h y (List.mem_cons_of_mem _ hy)
    obtain ⟨t, u, k1, k2⟩ := tenc_prog hN x
    have e := kf hd
    have eneg := kf_neg hd hD
    have hNp := nat_ne hN
    have hN0 : (0 : Rat) < N := Rat.natCast_pos.2 hN
    have key : ∀ A n : Rat, n ≠ 0 → A / n * n = A := fun A n h => by grind
    have eq1 : qr N x.2 * N = ((nrt (x.2 * (N * N)) : Nat) : Rat) := key _ _ hNp
    have eq2 : ((upR (x.2 * (N * N)) : Nat) : Rat) / N * N = ((upR (x.2 * (N * N)) : Nat) : Rat) := key _ _ hNp
    have up1 : nrt (x.2 * (N * N)) ≤ upR (x.2 * (N * N)) ∧ upR (x.2 * (N * N)) ≤ nrt (x.2 * (N * N)) + 1 := by unfold upR; split <;> omega
    have up2 : ((nrt (x.2 * (N * N)) : Nat) : Rat) ≤ ((upR (x.2 * (N * N)) : Nat) : Rat) := Rat.natCast_le_natCast.2 up1.1
    have up3 : ((upR (x.2 * (N * N)) : Nat) : Rat) ≤ ((nrt (x.2 * (N * N)) : Nat) : Rat) + 1 := by
      have := Rat.natCast_le_natCast.2 up1.2
      rw [cast_add] at this; exact this
    have el : ((m * (l.length + 1) : Nat) : Rat) = ((m * l.length : Nat) : Rat) + m := by rw [Nat.mul_succ, cast_add]
    refine ⟨t + lo, u + hi, ⟨t, u, lo, hi, k1, h1, rfl, rfl⟩, ?_⟩
    show ((l.foldl (encF D (N * N)) (encF D (N * N) p x)).1 : Rat) = _ ∧ ((l.foldl (encF D (N * N)) (encF D (N * N) p x)).2 : Rat) = _ ∧ _ ≤ x.1 * qr N x.2 + sumQ N l ∧ x.1 * qr N x.2 + sumQ N l ≤ _ ∧ _ ≤ ((m * (l.length + 1) : Nat) : Rat)
    rw [h2, h3, el]
    unfold encF
    generalize hK : ((D / x.1.den : Nat) : Int) * x.1.num = K at *
    generalize ((m * l.length : Nat) : Rat) = ml at *
    have hm1 := hm.1
    have hm2 := hm.2
    by_cases hneg : x.1 < 0
    · rw [if_pos (eneg.2 hneg)]
      rw [if_pos hneg] at k2
      obtain ⟨rfl, rfl⟩ := k2
      simp only [Rat.intCast_add, Rat.intCast_mul, e]
      have c1 : (((upR (x.2 * (N * N)) : Nat) : Int) : Rat) = ((upR (x.2 * (N * N)) : Nat) : Rat) := rfl
      have c2 : (((nrt (x.2 * (N * N)) : Nat) : Int) : Rat) = ((nrt (x.2 * (N * N)) : Nat) : Rat) := rfl
      rw [c1, c2]
      clear c1 c2 hK h1 k1 hm h2 h3 eneg hd e up1 el
      generalize ((upR (x.2 * (N * N)) : Nat) : Rat) / N = q at *
      generalize qr N x.2 = r at *
      generalize ((upR (x.2 * (N * N)) : Nat) : Rat) = U at *
      generalize ((nrt (x.2 * (N * N)) : Nat) : Rat) = A at *
      subst eq1 eq2
      have g1 : r ≤ q := Rat.not_lt.1 fun h => by
        have := Rat.mul_pos (show 0 < r - q by grind) hN0
        grind
      have g2 := Rat.mul_nonneg (show 0 ≤ -x.1 by grind) (show 0 ≤ q - r by grind)
      have g3 := Rat.mul_nonneg (show 0 ≤ -x.1 by grind) (show 0 ≤ r * N + 1 - q * N by grind)
      refine ⟨by grind, by grind, by grind, by grind, by grind⟩
    · rw [if_neg (fun hh => hneg (eneg.1 hh))]
      rw [if_neg hneg] at k2
      obtain ⟨rfl, rfl⟩ := k2
      simp only [Rat.intCast_add, Rat.intCast_mul, e]
      have c1 : (((upR (x.2 * (N * N)) : Nat) : Int) : Rat) = ((upR (x.2 * (N * N)) : Nat) : Rat) := rfl
      have c2 : (((nrt (x.2 * (N * N)) : Nat) : Int) : Rat) = ((nrt (x.2 * (N * N)) : Nat) : Rat) := rfl
      rw [c1, c2]
      clear c1 c2 hK h1 k1 hm h2 h3 eneg hd e up1 el
      generalize ((upR (x.2 * (N * N)) : Nat) : Rat) / N = q at *
      generalize qr N x.2 = r at *
      generalize ((upR (x.2 * (N * N)) : Nat) : Rat) = U at *
      generalize ((nrt (x.2 * (N * N)) : Nat) : Rat) = A at *
      subst eq1 eq2
      have g1 : r ≤ q := Rat.not_lt.1 fun h => by
        have := Rat.mul_pos (show 0 < r - q by grind) hN0
        grind
      have g2 := Rat.mul_nonneg (show 0 ≤ x.1 by grind) (show 0 ≤ q - r by grind)
      have g3 := Rat.mul_nonneg (show 0 ≤ x.1 by grind) (show 0 ≤ r * N + 1 - q * N by grind)
      refine ⟨by grind, by grind, by grind, by grind, by grind⟩
end Go.Ar.At

/-
  SURD: two small lemmas. Own work.
-/
namespace Go.Ar.At
open Go.Ar Go.Proofs
theorem nat1 {n : Nat} (h : 0 < n) : (0 : Rat) < (n : Rat) := Rat.natCast_pos.2 h
end Go.Ar.At
namespace Go.Proofs
open Go Go.Pi Go.RowKit Go.Ar
/-- the least place of agreement -/
theorem least_to {p : Nat → Prop} {M : Nat} (h : p M) : ∃ K, K ≤ M ∧ p K ∧ ∀ j, j < K → ¬p j := by
  obtain ⟨K, h1, h2⟩ := exists_least ⟨M, h⟩
  exact ⟨K, h2 M h, h1, fun j hj hp => by have := h2 j hp; omega⟩

end Go.Proofs

/-
  SURD: the reference's enclosures. Own work.
-/
namespace Go.Ar.At
open Go.Ar Go.Proofs

/-- the part of a term in the reference's bounds -/
def rbQ (s : Nat) (x : Tm) : Nat := nrt (x.1.num.natAbs * s * (x.1.num.natAbs * s) * x.2) / x.1.den
def rbF (s : Nat) (p : Int × Int) (x : Tm) : Int × Int := if x.1.num < 0 then (p.1 + -((rbQ s x : Int) + 1), p.2 + -(rbQ s x : Int)) else (p.1 + (rbQ s x : Int), p.2 + ((rbQ s x : Int) + 1))
def refB (l : List Tm) (s : Nat) : Int × Int := l.foldl (rbF s) (0, 0)
end Go.Ar.At

/-
  SURD: an enclosure that is narrow holds no whole number: then both whole parts agree. Own work.
-/
namespace Go.Ar.At
open Go.Ar Go.Proofs

theorem div_le {a s : Rat} {B : Nat} (hs : 1 ≤ s) (h : Bd B (a * s)) : Bd B a := by
  have hB := nat_nonneg B
  obtain ⟨h1, h2⟩ := h
  constructor
  · refine Rat.not_lt.1 fun hh => ?_
    have := Rat.mul_nonneg (show 0 ≤ a by grind) (show 0 ≤ s - 1 by grind)
    grind
  · refine Rat.not_lt.1 fun hh => ?_
    have := Rat.mul_nonneg (show 0 ≤ -a by grind) (show 0 ≤ s - 1 by grind)
    grind
end Go.Ar.At
