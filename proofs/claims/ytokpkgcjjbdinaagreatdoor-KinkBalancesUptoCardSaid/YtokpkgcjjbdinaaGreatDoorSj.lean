/-
 KINK: roots of squares and their sum. Own work.
-/
import Derived.Test.YtokpkgcjjbdinaaGreatDoorPl
import Derived.Test.YtokpkgcjjbdinaaGreatDoorSg
import Derived.Test.YtokpkgcjjbdinaaGreatDoorSi
import Derived.Test.YtokpkgcjjbdinaaGreatDoorSf
set_option linter.unusedVariables false
set_option linter.unusedSimpArgs false
namespace Go.Proofs
open Go Go.Pi Go.RowKit Go.Ar Go.Ge Go.Kk

theorem num_posK {z : Rat} (h : 0 < z) : 0 < z.num := by
 have h3 := Rat.num_nonneg.2 (Rat.le_of_lt h)
 have h4 : z.num ≠ 0 := fun e => by rw [Rat.num_eq_zero.1 e] at h; exact absurd h (by decide)
 omega
theorem root_sq {x : Rat} (hx : 0 < x.num) : Go.Ar.isq ((x * x).num.natAbs * (x * x).den) ∧ ofL (x * x) = [(x, 1)] := by
 obtain ⟨e1, e2⟩ := sq_parts x
 have e : (x * x).num.natAbs * (x * x).den = (x.num.natAbs * x.den) * (x.num.natAbs * x.den) := by
  rw [e1, e2, Int.natAbs_mul]; exact Nat.mul_mul_mul_comm ..
 have hq : Go.Ar.isq ((x * x).num.natAbs * (x * x).den) := by rw [e]; exact isq_sq _
 refine ⟨hq, ?_⟩
 unfold ofL
 rw [if_pos hq, e, nrt_sq, e2]
 have hd := x.den_nz
 have h2 : mkRat ((x.num.natAbs * x.den : Nat) : Int) (x.den * x.den) = x := by
  have e3 : ((x.num.natAbs * x.den : Nat) : Int) = x.num * (x.den : Int) := by
   rw [Int.natCast_mul, show ((x.num.natAbs : Nat) : Int) = x.num by omega]
  rw [e3, Rat.mkRat_mul_right hd, Rat.mkRat_self]
 rw [h2]
theorem Tryz.kroot (x : Rat) (hx : 0 < x) (hr : rd (x * x) ≤ 200) : Con Tryz.prog Tryz.L 49 [.str (rt (x * x))] (.tup [sg [(x, 1)], .int .i64 0]) := by
 have hn : 0 < x.num := num_posK hx
 obtain ⟨hq, ho⟩ := root_sq hn
 obtain ⟨e1, _⟩ := sq_parts x
 have hp : 0 < (x * x).num := by rw [e1]; exact Int.mul_pos hn hn
 have h := Tryz.of' (x * x) hr
 have e : ofD (x * x) = .tup [sg [(x, 1)], .int .i64 0] := by
  unfold ofD
  rw [if_neg (by omega), if_neg (fun e => by rw [e] at hp; exact absurd hp (by decide)), if_neg (fun hh => hh.1 hq), ho]
 rwa [e] at h
/-- the terms -/
def one1 (f : Nat → Rat) (n : Nat) : List Tm := lst n fun k => (f k, 1)
theorem mrg_11 (a b : Rat) : mrg (a, 1) (b, 1) = (a + b, 1) := by
 unfold mrg
 rw [if_neg (show ¬(1 : Nat) < 1 by decide)]
 have : mkRat (nrt (1 * 1)) 1 = 1 := by decide +kernel
 show (a + b * mkRat (nrt (1 * 1)) 1, 1) = _
 rw [this, Rat.mul_one]
theorem addL_11 (a b : Rat) : addL [(a, 1)] (b, 1) = [(a + b, 1)] := by
 show (if Go.Ar.isq (1 * 1) then mrg (a, 1) (b, 1) :: [] else _) = _
 rw [if_pos (isq_sq 1), mrg_11]
theorem fold_11 (f : Nat → Rat) : ∀ n, 0 < n → (one1 f n).foldl addL [] = [(sumN f n, 1)]
 | 0, h => absurd h (by decide)
 | 1, _ => by
   show [(f 0, 1)] = [(0 + f 0, 1)]
   rw [Rat.zero_add]
 | n + 2, _ => by
   have ih := fold_11 f (n + 1) (by omega)
   unfold one1 at ih ⊢
   rw [lst_succ, List.foldl_append, ih]
   exact addL_11 ..
theorem mulT_one' (a : List Tm) : mulT 1 a = a := by
 unfold mulT
 have : (fun x : Tm => (x.1 * 1, x.2)) = id := funext fun x => by rw [Rat.mul_one]; rfl
 rw [this, List.map_id]
theorem allT_one' : ∀ (ts : List Tm) (i : Nat), allT (fun _ => 1) i (ts.map fun x => [x]) = ts
 | [], _ => rfl
 | x :: ts, i => by
   show mulT 1 [x] ++ allT (fun _ => 1) (i + 1) (ts.map fun x => [x]) = x :: ts
   rw [allT_one' ts (i + 1), mulT_one']; rfl
theorem take_one1 (f : Nat → Rat) {n m : Nat} (h : m ≤ n) : (one1 f n).take m = one1 f m := by
 unfold one1 lst
 rw [← List.map_take, List.take_range, Nat.min_eq_left h]
theorem sok1' {x : Tm} (hx : tOk x) : SOk [x] := by
 refine ⟨by simp, fun z hz => by rw [List.mem_singleton.1 hz]; exact hx, fun i j a b hij ha hb => ?_⟩
 match i, j, ha, hb with
 | 0, j + 1, _, hb => simp at hb
 | i + 1, _, ha, _ => simp at ha
theorem ldC_sgs' {ls : List (List Tm)} {i t : Nat} {s : List Tm} (h : ls[i]? = some s) {N : EP} {E : Env} : ldC false 1 (List.take 1 (List.drop i (ls.map sg))) t N E = N (st1 E t (sg s)) := by
 have e : List.drop i (ls.map sg) = sg s :: List.drop (i + 1) (ls.map sg) := dropc (by rw [List.getElem?_map, h]; rfl)
 rw [e]; simp [ldC, ofCells, D.one]
theorem Tryz.kcheckAll (ls : List (List Tm)) (hl : ls.length ≤ 1000) (h : ∀ s ∈ ls, SOk s) : Con Tryz.prog Tryz.L 92 [.sl ls.length (ls.map sg)] (.int .i64 0) := by
 refine rule92 Tryz.hL rfl rfl rfl ?_
 (simp only [pc92, rs92, oU, oC]; refine ev ?_; try exact ⟨⟩)
 refine loopF_of (fun E => ∃ k : Nat, k ≤ ls.length ∧ E = [(6, .sl ls.length (ls.map sg)), (7, .int .i64 ls.length), (8, .int .i64 k)])
  (fun E => match lk E 8 with | .int _ i => ls.length - i.toNat | _ => 0) ⟨0, Nat.zero_le _, rfl⟩ ?_
 rintro _ ⟨k, hk, rfl⟩
 (refine ev ?_; try exact ⟨⟩)
 intro h3
 have hx : ls[k]? = some (ls[k]'(by omega)) := List.getElem?_eq_getElem (by omega)
 generalize ls[k]'(by omega) = s at hx
 refine ⟨⟨by omega, by omega, by rw [List.length_map]; omega⟩, ?_⟩
 rw [ldC_sgs' hx]
 (refine ev ?_; try exact ⟨⟩)
 refine callF_of (Tryz.check s (h s (List.mem_of_getElem? hx))) ?_
 (refine ev ?_; try exact ⟨⟩)
 exact ⟨by omega, ⟨k + 1, by omega, by simp⟩, by omega⟩
theorem Tryz.kfOne (i : Int) : Con Tryz.prog Tryz.L 94 [.int .i64 i] (.str (rt 1)) := by
 rw [one_txt]
 refine rule94 Tryz.hL rfl rfl rfl ?_
 (simp only [pc94, rs94, oU, oC]; refine ev ?_; try exact ⟨⟩)
/-- the lists as data -/
def sgl (f : Nat → Rat) (n : Nat) : List D := lst n fun k => sg [((f k, 1) : Tm)]
theorem sgl_succ (f : Nat → Rat) (n : Nat) : sgl f (n + 1) = sgl f n ++ [sg [((f n, 1) : Tm)]] := lst_succ ..
theorem sgl_len (f : Nat → Rat) (n : Nat) : (sgl f n).length = n := lst_len ..
theorem sumN_pos {f : Nat → Rat} : ∀ {n : Nat}, 0 < n → (∀ k, k < n → 0 < f k) → 0 < sumN f n
 | 0, h, _ => absurd h (by decide)
 | 1, _, h => by
   show 0 < 0 + f 0
   rw [Rat.zero_add]; exact h 0 (by decide)
 | n + 2, _, h => by
   have ih := sumN_pos (f := f) (n := n + 1) (by omega) (fun k hk => h k (by omega))
   have := h (n + 1) (by omega)
   show 0 < sumN f (n + 1) + f (n + 1)
   grind
set_option maxHeartbeats 4000000 in
theorem Tryz.kSum (f : Nat → Rat) (n : Nat) (hn : 0 < n) (hn4 : n ≤ 4) (hp : ∀ k, k < n → 0 < f k) (hr : ∀ k, k < n → rd (f k) ≤ 20) : Con Tryz.prog Tryz.L 50 [.sl n (sgl f n)] (.tup [sg [(sumN f n, 1)], .int .i64 0]) ∧ Con Tryz.prog Tryz.L 51 [sg [(sumN f n, 1)]] (.tup [.str (rt (sumN f n)), .bool true, .int .i64 0]) := by
 have d1 : dl ((1 : Nat) : Int) ≤ 8 := by decide +kernel
 have hsm : ∀ m, m ≤ n → rd (sumN f m) ≤ 100 := fun m hm => by
  have h1 := rd_sumN (f := f) (n := m) (m := 20) (fun k hk => hr k (by omega))
  have h2 : m * (20 + 1) ≤ 4 * 21 := Nat.mul_le_mul (by omega) (Nat.le_refl _)
  omega
 have hne : ∀ {q : Rat}, 0 < q → q ≠ 0 := fun h e => by rw [e] at h; exact absurd h (by decide)
 have hlen : ((one1 f n).map fun x => [x]).length = n := by rw [List.length_map]; exact lst_len n _
 have hmap : ((one1 f n).map fun x => [x]).map sg = sgl f n := by rw [List.map_map]; unfold one1 sgl lst; rw [List.map_map]; rfl
 have hmem : ∀ s ∈ (one1 f n).map (fun x => [x]), ∃ k, k < n ∧ s = [((f k, 1) : Tm)] := fun s hs => by
  obtain ⟨x, hx, rfl⟩ := List.mem_map.1 hs
  obtain ⟨k, hk, rfl⟩ := List.mem_map.1 hx
  exact ⟨k, List.mem_range.1 hk, rfl⟩
 have tok : ∀ q : Rat, 0 < q → rd q ≤ 200 → tOk (q, 1) := fun q h1 h2 => ⟨hne h1, h2, Nat.one_pos, Nat.le_trans d1 (by decide), fun _ => rfl⟩
 have hca := Tryz.kcheckAll ((one1 f n).map fun x => [x]) (by omega) (fun s hs => by
  obtain ⟨k, hk, rfl⟩ := hmem s hs
  exact sok1' (tok _ (hp k hk) (by have := hr k hk; omega)))
 have hk : ∀ i, i < ((one1 f n).map fun x => [x]).length → rd ((fun _ => 1 : Nat → Rat) i) ≤ 100 ∧ Con Tryz.prog Tryz.L 94 [.int .i64 i] (.str (rt ((fun _ => 1 : Nat → Rat) i))) := fun i _ =>
  ⟨by show rd 1 ≤ 100; rw [rd_one1]; decide, Tryz.kfOne i⟩
 have hfin : ((one1 f n).foldl addL []).filter (fun x => !decide (x.1 = 0)) = [(sumN f n, 1)] := by
  rw [fold_11 f n hn]
  have := hne (sumN_pos hn hp)
  simp [this]
 have hlen1 : (one1 f n).length = n := lst_len n _
 have hsum := Tryz.ssum (f := 94) (fun _ => 1) ((one1 f n).map fun x => [x]) [(sumN f n, 1)] (by omega) (fun s hs => by
  obtain ⟨k, hk, rfl⟩ := hmem s hs
  refine ⟨by simp, fun y hy => ?_⟩
  rw [List.mem_singleton.1 hy]
  exact ⟨by have := hr k hk; show rd (f k) ≤ 500; omega, Nat.one_pos, Nat.le_trans d1 (by decide)⟩) (by kernel_rfl) hk (by
   rw [allT_one']
   intro m hm
   rw [hlen1] at hm
   rw [take_one1 f hm]
   rcases Nat.eq_zero_or_pos m with rfl | h0
   ·exact ⟨by simp [one1, lst], fun y hy => by simp [one1, lst] at hy⟩
   ·rw [fold_11 f m h0]
    refine ⟨by simp, fun y hy => ?_⟩
    rw [List.mem_singleton.1 hy]
    exact ⟨by have := hsm m hm; show rd (sumN f m) ≤ 2000; omega, Nat.one_pos, Nat.le_trans d1 (by decide)⟩) (by rw [allT_one', hfin]; simp) (by
   rw [allT_one', hfin]
   exact fun r h1 _ => List.perm_singleton.1 h1)
 rw [hmap, hlen] at hsum hca
 have hok := tok (sumN f n) (sumN_pos hn hp) (by have := hsm n (Nat.le_refl _); omega)
 have hres := Tryz.result_ok [(sumN f n, 1)] (by simp) (fun x hx => by rw [List.mem_singleton.1 hx]; exact ⟨by have := hsm n (Nat.le_refl _); show rd (sumN f n) ≤ 200; omega, Nat.le_trans d1 (by decide)⟩)
 refine ⟨?_, Tryz.rational1 _ (sok1' hok) rfl⟩
 refine rule50 Tryz.hL rfl rfl rfl ?_
 (simp only [pc50, rs50, oU, oC]; refine ev ?_; try exact ⟨⟩)
 refine callF_of hca ?_
 (refine ev ?_; try exact ⟨⟩)
 refine callF_of hsum ?_
 (refine ev ?_; try exact ⟨⟩)
 refine callF_of hres ?_
 (refine ev ?_; try exact ⟨⟩)
 simp [resD_two, rvD, lk, D.plain, D.isPure, optAll]
end Go.Proofs

/-
 KINK: heights that are no right numbers; the law Heights (given Make and of). Own work.
-/
namespace Go.Proofs
open Go Go.Pi Go.RowKit Go.Ar Go.Ge Go.Kk

section bad
variable (p : Pf) (hp : PSz p) (s : List UInt8) (hs : s.length ≤ 1000) (hb : ¬ okR s)
include hp hs hb
end bad
/-- a number of quarters -/
def quar (z : Int) : Rat := mkRat z 4
theorem quar_rd {z : Int} (h : i8K z) : rd (quar z) ≤ 3 := by
 have := (by decide +kernel : ∀ n : Fin 256, rd (mkRat ((n.val : Int) - 128) 4) ≤ 3) ⟨(z + 128).toNat, by unfold i8K at h; omega⟩
 simp only at this
 rw [show (((z + 128).toNat : Nat) : Int) - 128 = z by unfold i8K at h; omega] at this
 exact this
theorem PlK.ln_rd (p : PlK) (hp : p.ok) {h : Rat} {m : Nat} (hh : rd h ≤ m) {k : Nat} (hk : k < p.pf.n) : rd (p.pf.ln h k) ≤ 7 + m := by
 have h1 := p.gr5 hp hk
 have h2 : rd (p.pf.l k) ≤ 1 := p.rlen k
 have h3 := rd_mul (p.pf.gr k) h
 have h4 := rd_add (p.pf.l k) (p.pf.gr k * h)
 unfold Pf.ln; omega
theorem PlK.bd_sz (p : PlK) (hp : p.ok) {h : Rat} {m : Nat} (hh : rd h ≤ m) {k : Nat} (hk : k ≤ p.pf.n) : Sz (38 + m) (p.pf.bd h k) := by
 have := (p.n4 hp).2
 exact (((p.at4 k).mono (m := 17) (by omega)).pl (p.ax20 k) hh).mono (by omega)

end Go.Proofs

/-
 KINK: unfolding and folding again; sizes by common denominators. Own work.
-/
namespace Go.Kk
open Go.Ge Go.Ar

/-- with a common denominator -/
def CB (D k : Nat) (q : Rat) : Prop := ∃ u : Int, u.natAbs ≤ k ∧ q * (D : Rat) = (u : Rat)
theorem CB.mono {D k l : Nat} {q : Rat} (h : CB D k q) (h1 : k ≤ l) : CB D l q := by
 obtain ⟨u, h3, h4⟩ := h
 exact ⟨u, Nat.le_trans h3 h1, h4⟩
theorem CB.mul {D E k l : Nat} {p q : Rat} (h : CB D k p) (h' : CB E l q) : CB (D * E) (k * l) (p * q) := by
 obtain ⟨u, h1, h2⟩ := h
 obtain ⟨v, h3, h4⟩ := h'
 exact ⟨u * v, by rw [Int.natAbs_mul]; exact Nat.mul_le_mul h1 h3, by rw [Rat.natCast_mul, Rat.intCast_mul, ← h2, ← h4]; grind⟩
theorem CB.add {D k l : Nat} {p q : Rat} (h : CB D k p) (h' : CB D l q) : CB D (k + l) (p + q) := by
 obtain ⟨u, h1, h2⟩ := h
 obtain ⟨v, h3, h4⟩ := h'
 exact ⟨u + v, by omega, by rw [Rat.intCast_add, ← h2, ← h4]; grind⟩
theorem CB.neg {D k : Nat} {p : Rat} (h : CB D k p) : CB D k (-p) := by
 obtain ⟨u, h1, h2⟩ := h
 exact ⟨-u, by omega, by rw [Rat.intCast_neg, ← h2]; grind⟩
theorem CB.up {D k : Nat} {p : Rat} (h : CB D k p) (E : Nat) : CB (D * E) (k * E) p := by
 obtain ⟨u, h1, h2⟩ := h
 exact ⟨u * E, by rw [Int.natAbs_mul, Int.natAbs_natCast]; exact Nat.mul_le_mul_right _ h1, by rw [Rat.natCast_mul, Rat.intCast_mul, ← h2, Rat.intCast_natCast]; grind⟩
theorem CB.int {z : Int} {k : Nat} (h : z.natAbs ≤ k) : CB 1 k (z : Rat) := ⟨z, h, by grind⟩

/-- any vector by a direction and its normal -/
theorem split_dn (t : Rat) (v : Pt) : v = pl (pl (0, 0) (dirK t) (dt (dirK t) v)) (nrm t) (dt (nrm t) v) := by
 have h := dir_one t
 unfold dt at h
 unfold pl dt nrm upK
 generalize (dirK t).1 = c at *
 generalize (dirK t).2 = s at *
 obtain ⟨x, y⟩ := v
 simp only [Prod.mk.injEq]
 constructor <;> grind
theorem dot_avgN {t u : Rat} (h : 1 + t * u ≠ 0) : dt (nrm t) (avg (nrm t) (nrm u)) = 1 ∧ dt (nrm u) (avg (nrm t) (nrm u)) = 1 := by
 have h1 := (dot_nn h).1
 have h7 : (1 / (1 + dt (nrm t) (nrm u))) * (1 + dt (nrm t) (nrm u)) = 1 := div_mul h1
 have e := nrm_one t
 have e' := nrm_one u
 constructor
 ·rw [dt_avg, e]; grind
 ·rw [dt_avg, e', dt_comm (nrm u) (nrm t)]; grind
def Pf.okT (p : Pf) : Prop := ∀ k, k < p.n → -1 < p.t k ∧ p.t k < 1
/-- the ends of a domain move by 1 across it -/
theorem nrm_ax (p : Pf) (ho : p.okT) {k : Nat} (hk : k < p.n) : dt (nrm (p.t k)) (p.ax k) = 1 ∧ dt (nrm (p.t k)) (p.ax (k + 1)) = 1 := by
 constructor
 ·unfold Pf.ax
  split
  ·rename_i h; subst h; exact nrm_one _
  ·rw [if_neg (by omega)]
   exact (dot_avgN (ne_tan (ho (k - 1) (by omega)) (ho k hk))).2
 ·unfold Pf.ax
  rw [if_neg (by omega)]
  split
  ·rw [Nat.add_sub_cancel]; exact nrm_one _
  ·rw [Nat.add_sub_cancel]; exact (dot_avgN (ne_tan (ho k hk) (ho (k + 1) (by omega)))).1
/-- the end of a domain's bed is its begin, its length further on -/
theorem bd_succ (p : Pf) (ho : p.okT) (h : Rat) {k : Nat} (hk : k < p.n) : p.bd h (k + 1) = pl (p.bd h k) (dirK (p.t k)) (p.ln h k) := by
 have e1 := ln_eq p h k
 have e2 : dt (nrm (p.t k)) (mn (p.bd h (k + 1)) (p.bd h k)) = 0 := by
  obtain ⟨a, b⟩ := nrm_ax p ho hk
  unfold Pf.bd
  rw [dt_mn, dt_pl, dt_pl, a, b]
  show dt (nrm (p.t k)) (pl (p.at' k) (dirK (p.t k)) (p.l k)) + _ - _ = _
  rw [dt_pl, dt_comm (nrm _) (dirK _), nrm_dir]; grind
 have e3 := split_dn (p.t k) (mn (p.bd h (k + 1)) (p.bd h k))
 rw [e1, e2] at e3
 generalize p.bd h (k + 1) = x at *
 generalize p.bd h k = y at *
 generalize dirK (p.t k) = d at *
 generalize nrm (p.t k) = m at *
 generalize p.ln h k = l at *
 obtain ⟨x1, x2⟩ := x
 obtain ⟨y1, y2⟩ := y
 simp only [mn, pl, Prod.mk.injEq] at e3 ⊢
 constructor <;> grind
end Go.Kk

/-
 KINK: segments, quadrilaterals and the middle, plain. Own work.
-/
namespace Go.Proofs
open Go Go.Pi Go.Ar Go.Ge Go.Kk

theorem seg_dot (p : Pf) (ho : p.okT) (h : Rat) {k : Nat} (hk : k < p.n) : dt (pl (p.bd h (k + 1)) (p.bd h k) (-1)) (pl (p.bd h (k + 1)) (p.bd h k) (-1)) = p.ln h k * p.ln h k := by
 rw [bd_succ p ho h hk]
 have h1 := dir_one (p.t k)
 generalize p.bd h k = q at *
 generalize p.ln h k = x at *
 generalize dirK (p.t k) = d at *
 unfold dt pl at *
 grind
theorem quad_area (p : Pf) (ho : p.okT) (a b : Rat) {k : Nat} (hk : k < p.n) : ar (qd p a b k 0) (qd p a b k 1) (qd p a b k 2) = p.ln a k * (b - a) ∧ ar (qd p a b k 0) (qd p a b k 2) (qd p a b k 3) = p.ln b k * (b - a) := by
 have e0 : qd p a b k 0 = p.bd a k := rfl
 have e1 : qd p a b k 1 = p.bd a (k + 1) := rfl
 have e2 : qd p a b k 2 = p.bd b (k + 1) := rfl
 have e3 : qd p a b k 3 = p.bd b k := rfl
 rw [e0, e1, e2, e3, bd_succ p ho a hk, bd_succ p ho b hk]
 have h1 := dir_one (p.t k)
 have h2 := (nrm_ax p ho hk).1
 have e4 : ∀ h, p.bd h k = pl (p.at' k) (p.ax k) h := fun h => rfl
 rw [e4, e4]
 unfold nrm at h2
 generalize p.at' k = q at *
 generalize p.ax k = x at *
 generalize p.ln a k = l at *
 generalize p.ln b k = m at *
 generalize dirK (p.t k) = d at *
 unfold dt upK at *
 unfold ar pl
 constructor <;> grind
theorem sum_add (f g : Nat → Rat) : ∀ n, sumN (fun k => f k + g k) n = sumN f n + sumN g n
 | 0 => by show (0 : Rat) = 0 + 0; grind
 | n + 1 => by
   have := sum_add f g n
   show sumN (fun k => f k + g k) n + (f n + g n) = (sumN f n + f n) + (sumN g n + g n)
   rw [this]; grind
theorem sum_mul (f : Nat → Rat) (c : Rat) : ∀ n, sumN (fun k => f k * c) n = sumN f n * c
 | 0 => by show (0 : Rat) = 0 * c; grind
 | n + 1 => by
   have := sum_mul f c n
   show sumN (fun k => f k * c) n + f n * c = (sumN f n + f n) * c
   rw [this]; grind
theorem sum_congr {f g : Nat → Rat} : ∀ {n : Nat}, (∀ k, k < n → f k = g k) → sumN f n = sumN g n
 | 0, _ => rfl
 | n + 1, h => by
   show sumN f n + f n = sumN g n + g n
   rw [sum_congr (n := n) fun k hk => h k (by omega), h n (by omega)]
theorem ln_mid (p : Pf) (a b : Rat) (k : Nat) : p.ln ((a + b) * (1 / 2)) k = (p.ln a k + p.ln b k) * (1 / 2) := by
 unfold Pf.ln; grind
theorem len_mid (p : Pf) (a b : Rat) (n : Nat) : sumN (p.ln ((a + b) * (1 / 2))) n = (sumN (p.ln a) n + sumN (p.ln b) n) * (1 / 2) := by
 rw [← sum_add, ← sum_mul]
 exact sum_congr fun k _ => ln_mid p a b k
theorem win_mid (p : Pf) {a b : Rat} (ha : p.win a = true) (hb : p.win b = true) : p.win ((a + b) * (1 / 2)) = true := by
 unfold Pf.win at *
 rw [decide_eq_true_iff] at *
 intro k hk
 have h1 := ha k hk; have h2 := hb k hk
 rw [ln_mid]; grind
/-- the doubled areas of the first quadrilaterals -/
def tot (p : Pf) (a b : Rat) (k : Nat) : Rat := sumN (fun j => (p.ln a j + p.ln b j) * (b - a)) k
theorem tot_two (p : Pf) (a b : Rat) (k : Nat) : tot p a b k = 2 * ((sumN (p.ln a) k + sumN (p.ln b) k) * (1 / 2) * (b - a)) := by
 unfold tot
 rw [sum_mul, sum_add]; grind
theorem tot_succ (p : Pf) (a b : Rat) (k : Nat) : tot p a b k + p.ln a k * (b - a) + p.ln b k * (b - a) = tot p a b (k + 1) := by
 show tot p a b k + _ + _ = tot p a b k + (p.ln a k + p.ln b k) * (b - a)
 grind
end Go.Proofs

/-
 KINK: the law's Make and of: append to fields of a struct. Own work.
-/
namespace Go.Proofs
open Go Go.Pi Go.RowKit Go.Ar Go.Ge Go.Kk

theorem plD_at : ∀ (l : List (Int × Int)) (k : Nat), k < l.length → List.take 2 (List.drop (k * 2) (l.flatMap fun q => [D.int .i8 q.1, D.int .i8 q.2])) = [.int .i8 (l.getD k (0, 0)).1, .int .i8 (l.getD k (0, 0)).2]
 | [], k, h => absurd h (Nat.not_lt_zero k)
 | a :: l, 0, _ => rfl
 | a :: l, k + 1, h => by
   have := plD_at l k (by simpa using h)
   rw [show (k + 1) * 2 = k * 2 + 1 + 1 by omega]
   simpa using this
theorem plD_len (l : List (Int × Int)) : (l.flatMap fun q => [D.int .i8 q.1, D.int .i8 q.2]).length = l.length * 2 := by
 induction l with
 | nil => rfl
 | cons a l ih => simp only [List.flatMap_cons, List.length_append, List.length_cons, List.length_nil, ih]; omega
theorem mx_neg (z : Int) : (if 0 - z > z then 0 - z else z) = (z.natAbs : Int) := by split <;> omega

set_option maxRecDepth 100000 in
set_option maxHeartbeats 8000000 in
theorem Tryz.makeOk : Tryz.MakeOk := by
 intro p hp
 obtain ⟨hx, hy, hd, hn⟩ := hp
 unfold i8K at hx hy
 have tx := tm10 p.x
 have ty := tm10 p.y
 have cat := Tryz.kat (p.x.tmod 10) (p.y.tmod 10) (by rw [inR_i64]; omega) (by rw [inR_i64]; omega)
 refine rule17f Tryz.hL rfl rfl rfl ?_
 simp only [ptD] at cat
 simp only [PlK.D, pc17f, rs17f, evX, evY, evZ, forall_const, implies_true, initE, stepF, D.clean, mvF, moF, tkF, shF, ariF, ciF, catF, scF, ebF, eqF, eqOk, eqPr, enF, notF, ngF, cvF, csF, csbF, lenF, lenSF, ixF, iaF, PX.slot, iaAF, faF, ldF, D.mem, stF, bxF, mkSF, boundF, fldF, ixAF, mmF2, D.plain, D.isPure, optAll, D.dull, callVF, splice, D.cells, D.one, sets, resT, D.flat, D.flat0, D.simple, Nat.reduceBNe, Nat.reduceLT, reduceIte, Nat.reduceEqDiff, Nat.reduceAdd, Nat.reduceMul, Nat.reduceSub, Nat.reduceLeDiff, Int.reduceToNat, Int.reduceLT, Int.reduceLE, Int.reduceEq, Int.reduceNeg, Int.reduceSub, Int.reduceAdd, Int.reduceMul, stG_own]
 refine ⟨by omega, by omega, by omega, by omega, ?_⟩
 refine callF_of cat ?_
 (refine ev ?_; try exact ⟨⟩)
 have hpl := plD_len p.d
 refine loopF_of (fun E => ∃ (k : Nat) (b x y : D), k ≤ p.d.length ∧ ((k = 0 ∧ b = .box true [.str (rt ((p.x.tmod 10 : Int) : Rat)), .str (rt ((p.y.tmod 10 : Int) : Rat)), .sl 0 [.un], .sl 0 [.un]] ∧ x = .un ∧ y = .un) ∨
   (0 < k ∧ b = .mbx [.str (rt ((p.x.tmod 10 : Int) : Rat)), .str (rt ((p.y.tmod 10 : Int) : Rat)), .al 4000003, .al 5000003] ∧ x = .own true 22 k (nms k p.dip) ∧ y = .own true 22 k (nms k p.len))) ∧
   E = [(1, .box true [.int .i8 p.x, .int .i8 p.y, .sl p.d.length (p.d.flatMap fun q => [.int .i8 q.1, .int .i8 q.2])]), (2, .box true [.str [], .str [], .sl 0 [], .sl 0 []]), (3, b), (4, .int .i64 k), (4000003, x), (5000003, y)])
  (fun E => match lk E 4 with | .int _ i => p.d.length - i.toNat | _ => 0) ⟨0, _, _, _, Nat.zero_le _, .inl ⟨rfl, rfl, rfl, rfl⟩, rfl⟩ ?_
 rintro _ ⟨k, b, x, y, hk, hb, rfl⟩
 by_cases hlt : k < p.d.length
 ·have hpk := plD_at p.d k hlt
  have hq := hd (p.d.getD k (0, 0)) (by rw [List.getD_eq_getElem?_getD, List.getElem?_eq_getElem hlt]; exact List.getElem_mem hlt)
  have edip : mkRat ((p.d.getD k (0, 0)).1.tmod 6) 6 = p.dip k := by unfold PlK.dip; rw [Rat.mkRat_eq_div]; rfl
  have t6 := tm6 (p.d.getD k (0, 0)).1
  have co := Tryz.rof ((p.d.getD k (0, 0)).1.tmod 6) 6 (by decide) (by rw [inR_i64]; omega) (by rw [inR_i64]; omega)
  rw [edip] at co
  have u6 := tm6 ((p.d.getD k (0, 0)).2.natAbs : Int)
  have cw := Tryz.rwhole (1 + ((p.d.getD k (0, 0)).2.natAbs : Int).tmod 6) (by rw [inR_i64]; omega)
  rw [show ((1 + ((p.d.getD k (0, 0)).2.natAbs : Int).tmod 6 : Int) : Rat) = p.len k from rfl] at cw
  have e1 : nms (k + 1) p.dip = nms k p.dip ++ [.str (rt (p.dip k))] := nms_suc _ _
  have e2 : nms (k + 1) p.len = nms k p.len ++ [.str (rt (p.len k))] := nms_suc _ _
  generalize p.d.getD k (0, 0) = q at *
  obtain ⟨q1, q2⟩ := q
  obtain ⟨⟨a1, a2⟩, ⟨a3, a4⟩⟩ := hq
  simp only at hpk co cw t6 u6 a1 a2 a3 a4
  have hd1 := nms_len k p.dip
  have hd2 := nms_len k p.len
  have hd1 := nms_len k p.dip
  have hd2 := nms_len k p.len
  rcases hb with ⟨hk0, rfl, rfl, rfl⟩ | ⟨h0, rfl, rfl, rfl⟩
  ·simp only [evX, evY, evZ, forall_const, implies_true, initE, stepF, D.clean, mvF, moF, tkF, shF, ariF, ciF, catF, scF, ebF, eqF, eqOk, eqPr, enF, notF, ngF, cvF, csF, csbF, lenF, lenSF, ixF, iaF, PX.slot, iaAF, faF, ldF, D.mem, stF, bxF, mkSF, boundF, fldF, ixAF, mmF2, D.plain, D.isPure, optAll, D.dull, callVF, splice, D.cells, D.one, sets, resT, D.flat, D.flat0, D.simple, Nat.reduceBNe, Nat.reduceLT, reduceIte, Nat.reduceEqDiff, Nat.reduceAdd, Nat.reduceMul, Nat.reduceSub, Nat.reduceLeDiff, Int.reduceToNat, Int.reduceLT, Int.reduceLE, Int.reduceEq, Int.reduceNeg, Int.reduceSub, Int.reduceAdd, Int.reduceMul, stG_own, GF_eq, faMF_b, faMF_m, lgMF_b, lgMF_m, lgMC_al, lgMC_sl, lgMC_str, sgMF_b, sgMF_m, ldMF_b, ldMF_m, appF_no, fset0, fsetS, fldOk_al, fldOk_str, fldOk_sl, isOwn_o, unM_al, unM_str, unM_sl, hpk, mx_neg]
   refine ⟨fun _ => ⟨fun _ => ?_, fun h => absurd (by omega) h⟩, fun h => absurd (by omega) h⟩
   refine ⟨⟨by omega, by omega, by omega⟩, by omega, by omega, ?_⟩
   refine callF_of co ?_
   simp only [evX, evY, evZ, forall_const, implies_true, initE, stepF, D.clean, mvF, moF, tkF, shF, ariF, ciF, catF, scF, ebF, eqF, eqOk, eqPr, enF, notF, ngF, cvF, csF, csbF, lenF, lenSF, ixF, iaF, PX.slot, iaAF, faF, ldF, D.mem, stF, bxF, mkSF, boundF, fldF, ixAF, mmF2, D.plain, D.isPure, optAll, D.dull, callVF, splice, D.cells, D.one, sets, resT, D.flat, D.flat0, D.simple, Nat.reduceBNe, Nat.reduceLT, reduceIte, Nat.reduceEqDiff, Nat.reduceAdd, Nat.reduceMul, Nat.reduceSub, Nat.reduceLeDiff, Int.reduceToNat, Int.reduceLT, Int.reduceLE, Int.reduceEq, Int.reduceNeg, Int.reduceSub, Int.reduceAdd, Int.reduceMul, stG_own, GF_eq, faMF_b, faMF_m, lgMF_b, lgMF_m, lgMC_al, lgMC_sl, lgMC_str, sgMF_b, sgMF_m, ldMF_b, ldMF_m, appF_no, fset0, fsetS, fldOk_al, fldOk_str, fldOk_sl, isOwn_o, unM_al, unM_str, unM_sl, hpk, mx_neg]
   refine ⟨⟨by omega, by omega, by omega⟩, by omega, by omega, ⟨by omega, by omega, by omega⟩, by omega, by omega, by omega, by omega, ?_⟩
   refine callF_of cw ?_
   simp only [evX, evY, evZ, forall_const, implies_true, initE, stepF, D.clean, mvF, moF, tkF, shF, ariF, ciF, catF, scF, ebF, eqF, eqOk, eqPr, enF, notF, ngF, cvF, csF, csbF, lenF, lenSF, ixF, iaF, PX.slot, iaAF, faF, ldF, D.mem, stF, bxF, mkSF, boundF, fldF, ixAF, mmF2, D.plain, D.isPure, optAll, D.dull, callVF, splice, D.cells, D.one, sets, resT, D.flat, D.flat0, D.simple, Nat.reduceBNe, Nat.reduceLT, reduceIte, Nat.reduceEqDiff, Nat.reduceAdd, Nat.reduceMul, Nat.reduceSub, Nat.reduceLeDiff, Int.reduceToNat, Int.reduceLT, Int.reduceLE, Int.reduceEq, Int.reduceNeg, Int.reduceSub, Int.reduceAdd, Int.reduceMul, stG_own, GF_eq, faMF_b, faMF_m, lgMF_b, lgMF_m, lgMC_al, lgMC_sl, lgMC_str, sgMF_b, sgMF_m, ldMF_b, ldMF_m, appF_no, fset0, fsetS, fldOk_al, fldOk_str, fldOk_sl, isOwn_o, unM_al, unM_str, unM_sl]
   refine ⟨by omega, ⟨k + 1, _, _, _, by omega, .inr ⟨by omega, rfl, rfl, rfl⟩, ?_⟩, by omega⟩
   subst hk0
   exact ⟨rfl, rfl, rfl, rfl⟩
  ·simp only [evX, evY, evZ, forall_const, implies_true, initE, stepF, D.clean, mvF, moF, tkF, shF, ariF, ciF, catF, scF, ebF, eqF, eqOk, eqPr, enF, notF, ngF, cvF, csF, csbF, lenF, lenSF, ixF, iaF, PX.slot, iaAF, faF, ldF, D.mem, stF, bxF, mkSF, boundF, fldF, ixAF, mmF2, D.plain, D.isPure, optAll, D.dull, callVF, splice, D.cells, D.one, sets, resT, D.flat, D.flat0, D.simple, Nat.reduceBNe, Nat.reduceLT, reduceIte, Nat.reduceEqDiff, Nat.reduceAdd, Nat.reduceMul, Nat.reduceSub, Nat.reduceLeDiff, Int.reduceToNat, Int.reduceLT, Int.reduceLE, Int.reduceEq, Int.reduceNeg, Int.reduceSub, Int.reduceAdd, Int.reduceMul, stG_own, GF_eq, faMF_b, faMF_m, lgMF_b, lgMF_m, lgMC_al, lgMC_sl, lgMC_str, sgMF_b, sgMF_m, ldMF_b, ldMF_m, appF_no, fset0, fsetS, fldOk_al, fldOk_str, fldOk_sl, isOwn_o, unM_al, unM_str, unM_sl, hpk, mx_neg]
   refine ⟨fun _ => ⟨fun _ => ?_, fun h => absurd (by omega) h⟩, fun h => absurd (by omega) h⟩
   refine ⟨⟨by omega, by omega, by omega⟩, by omega, by omega, ?_⟩
   refine callF_of co ?_
   simp only [evX, evY, evZ, forall_const, implies_true, initE, stepF, D.clean, mvF, moF, tkF, shF, ariF, ciF, catF, scF, ebF, eqF, eqOk, eqPr, enF, notF, ngF, cvF, csF, csbF, lenF, lenSF, ixF, iaF, PX.slot, iaAF, faF, ldF, D.mem, stF, bxF, mkSF, boundF, fldF, ixAF, mmF2, D.plain, D.isPure, optAll, D.dull, callVF, splice, D.cells, D.one, sets, resT, D.flat, D.flat0, D.simple, Nat.reduceBNe, Nat.reduceLT, reduceIte, Nat.reduceEqDiff, Nat.reduceAdd, Nat.reduceMul, Nat.reduceSub, Nat.reduceLeDiff, Int.reduceToNat, Int.reduceLT, Int.reduceLE, Int.reduceEq, Int.reduceNeg, Int.reduceSub, Int.reduceAdd, Int.reduceMul, stG_own, GF_eq, faMF_b, faMF_m, lgMF_b, lgMF_m, lgMC_al, lgMC_sl, lgMC_str, sgMF_b, sgMF_m, ldMF_b, ldMF_m, appF_no, fset0, fsetS, fldOk_al, fldOk_str, fldOk_sl, isOwn_o, unM_al, unM_str, unM_sl, hpk, mx_neg]
   refine ⟨by omega, by omega, ⟨by omega, by omega, by omega⟩, by omega, by omega, ⟨by omega, by omega, by omega⟩, by omega, by omega, by omega, by omega, ?_⟩
   refine callF_of cw ?_
   simp only [evX, evY, evZ, forall_const, implies_true, initE, stepF, D.clean, mvF, moF, tkF, shF, ariF, ciF, catF, scF, ebF, eqF, eqOk, eqPr, enF, notF, ngF, cvF, csF, csbF, lenF, lenSF, ixF, iaF, PX.slot, iaAF, faF, ldF, D.mem, stF, bxF, mkSF, boundF, fldF, ixAF, mmF2, D.plain, D.isPure, optAll, D.dull, callVF, splice, D.cells, D.one, sets, resT, D.flat, D.flat0, D.simple, Nat.reduceBNe, Nat.reduceLT, reduceIte, Nat.reduceEqDiff, Nat.reduceAdd, Nat.reduceMul, Nat.reduceSub, Nat.reduceLeDiff, Int.reduceToNat, Int.reduceLT, Int.reduceLE, Int.reduceEq, Int.reduceNeg, Int.reduceSub, Int.reduceAdd, Int.reduceMul, stG_own, GF_eq, faMF_b, faMF_m, lgMF_b, lgMF_m, lgMC_al, lgMC_sl, lgMC_str, sgMF_b, sgMF_m, ldMF_b, ldMF_m, appF_no, fset0, fsetS, fldOk_al, fldOk_str, fldOk_sl, isOwn_o, unM_al, unM_str, unM_sl]
   exact ⟨by omega, by omega, by omega, ⟨k + 1, _, _, _, by omega, .inr ⟨by omega, rfl, rfl, rfl⟩, by rw [e1, e2]; exact ⟨rfl, rfl, rfl, rfl⟩⟩, by omega⟩
 ·obtain rfl : k = p.d.length := by omega
  rcases hb with ⟨hk0, rfl, rfl, rfl⟩ | ⟨h0, rfl, rfl, rfl⟩
  ·have hnil : p.d = [] := List.eq_nil_of_length_eq_zero hk0
   have z1 : rt (p.dip 0) = [48] := by unfold PlK.dip; rw [hnil]; decide +kernel
   have z2 : rt (p.len 0) = [49] := by unfold PlK.len; rw [hnil]; decide +kernel
   simp only [evX, evY, evZ, forall_const, implies_true, initE, stepF, D.clean, mvF, moF, tkF, shF, ariF, ciF, catF, scF, ebF, eqF, eqOk, eqPr, enF, notF, ngF, cvF, csF, csbF, lenF, lenSF, ixF, iaF, PX.slot, iaAF, faF, ldF, D.mem, stF, bxF, mkSF, boundF, fldF, ixAF, mmF2, D.plain, D.isPure, optAll, D.dull, callVF, splice, D.cells, D.one, sets, resT, D.flat, D.flat0, D.simple, Nat.reduceBNe, Nat.reduceLT, reduceIte, Nat.reduceEqDiff, Nat.reduceAdd, Nat.reduceMul, Nat.reduceSub, Nat.reduceLeDiff, Int.reduceToNat, Int.reduceLT, Int.reduceLE, Int.reduceEq, Int.reduceNeg, Int.reduceSub, Int.reduceAdd, Int.reduceMul, stG_own, GF_eq, faMF_b, faMF_m, lgMF_b, lgMF_m, lgMC_al, lgMC_sl, lgMC_str, sgMF_b, sgMF_m, ldMF_b, ldMF_m, appF_no, fset0, fsetS, fldOk_al, fldOk_str, fldOk_sl, isOwn_o, unM_al, unM_str, unM_sl]
   refine ⟨fun h => absurd h (by omega), fun _ => ?_⟩
   refine ⟨fun _ => ⟨rfl, ?_⟩, fun h => absurd rfl h⟩
   have e : pfD p.pf = [.str (rt ((p.x.tmod 10 : Int) : Rat)), .str (rt ((p.y.tmod 10 : Int) : Rat)), .sl 1 [.str [48]], .sl 1 [.str [49]]] := by
    unfold pfD PlK.pf
    simp only [if_pos hnil]
    show [D.str _, D.str _, D.sl 1 [.str (rt (p.dip 0))], D.sl 1 [.str (rt (p.len 0))]] = _
    rw [z1, z2]
   rw [e]
   rfl
  ·have hne : p.d ≠ [] := fun h => by rw [h] at h0; exact absurd h0 (by decide)
   simp only [evX, evY, evZ, forall_const, implies_true, initE, stepF, D.clean, mvF, moF, tkF, shF, ariF, ciF, catF, scF, ebF, eqF, eqOk, eqPr, enF, notF, ngF, cvF, csF, csbF, lenF, lenSF, ixF, iaF, PX.slot, iaAF, faF, ldF, D.mem, stF, bxF, mkSF, boundF, fldF, ixAF, mmF2, D.plain, D.isPure, optAll, D.dull, callVF, splice, D.cells, D.one, sets, resT, D.flat, D.flat0, D.simple, Nat.reduceBNe, Nat.reduceLT, reduceIte, Nat.reduceEqDiff, Nat.reduceAdd, Nat.reduceMul, Nat.reduceSub, Nat.reduceLeDiff, Int.reduceToNat, Int.reduceLT, Int.reduceLE, Int.reduceEq, Int.reduceNeg, Int.reduceSub, Int.reduceAdd, Int.reduceMul, stG_own, GF_eq, faMF_b, faMF_m, lgMF_b, lgMF_m, lgMC_al, lgMC_sl, lgMC_str, sgMF_b, sgMF_m, ldMF_b, ldMF_m, appF_no, fset0, fsetS, fldOk_al, fldOk_str, fldOk_sl, isOwn_o, unM_al, unM_str, unM_sl]
   refine ⟨fun h => absurd h (by omega), fun _ => ?_⟩
   refine ⟨fun h => absurd h (by omega), fun _ => ⟨rfl, ?_⟩⟩
   have e : pfD p.pf = [.str (rt ((p.x.tmod 10 : Int) : Rat)), .str (rt ((p.y.tmod 10 : Int) : Rat)), .sl p.d.length (nms p.d.length p.dip), .sl p.d.length (nms p.d.length p.len)] := by
    unfold pfD PlK.pf
    simp only [if_neg hne]
   rw [e]
   rfl

end Go.Proofs

/-
 KINK: the law Returns (given Make). Own work.
-/
namespace Go.Proofs
open Go Go.Pi Go.RowKit Go.Ar Go.Ge Go.Kk

theorem T6.cb {t : Rat} (h : T6 t) : ∃ e, 36 ≤ e ∧ e ≤ 61 ∧ CB e 60 (dirK t).1 ∧ CB e 60 (dirK t).2 := by
 refine h.cases (q := fun t => ∃ e, 36 ≤ e ∧ e ≤ 61 ∧ CB e 60 (dirK t).1 ∧ CB e 60 (dirK t).2) ?_
 intro k hk
 simp only [List.mem_cons, List.not_mem_nil, or_false] at hk
 rcases hk with rfl | rfl | rfl | rfl | rfl | rfl | rfl | rfl | rfl | rfl | rfl
 ·exact ⟨61, by decide, by decide, ⟨11, by decide, by decide +kernel⟩, ⟨-60, by decide, by decide +kernel⟩⟩
 ·exact ⟨52, by decide, by decide, ⟨20, by decide, by decide +kernel⟩, ⟨-48, by decide, by decide +kernel⟩⟩
 ·exact ⟨45, by decide, by decide, ⟨27, by decide, by decide +kernel⟩, ⟨-36, by decide, by decide +kernel⟩⟩
 ·exact ⟨40, by decide, by decide, ⟨32, by decide, by decide +kernel⟩, ⟨-24, by decide, by decide +kernel⟩⟩
 ·exact ⟨37, by decide, by decide, ⟨35, by decide, by decide +kernel⟩, ⟨-12, by decide, by decide +kernel⟩⟩
 ·exact ⟨36, by decide, by decide, ⟨36, by decide, by decide +kernel⟩, ⟨0, by decide, by decide +kernel⟩⟩
 ·exact ⟨37, by decide, by decide, ⟨35, by decide, by decide +kernel⟩, ⟨12, by decide, by decide +kernel⟩⟩
 ·exact ⟨40, by decide, by decide, ⟨32, by decide, by decide +kernel⟩, ⟨24, by decide, by decide +kernel⟩⟩
 ·exact ⟨45, by decide, by decide, ⟨27, by decide, by decide +kernel⟩, ⟨36, by decide, by decide +kernel⟩⟩
 ·exact ⟨52, by decide, by decide, ⟨20, by decide, by decide +kernel⟩, ⟨48, by decide, by decide +kernel⟩⟩
 ·exact ⟨61, by decide, by decide, ⟨11, by decide, by decide +kernel⟩, ⟨60, by decide, by decide +kernel⟩⟩
end Go.Proofs

/-
 KINK: the law Returns (given Make). Own work.
-/
namespace Go.Kk
open Go.Ge Go.Ar

end Go.Kk
namespace Go.Proofs
open Go Go.Pi Go.RowKit Go.Ar Go.Ge Go.Kk

theorem PlK.okT (p : PlK) : p.pf.okT := fun k _ => (p.t6 k).in1
end Go.Proofs

/-
 KINK: the law Returns (given Make). Own work.
-/
namespace Go.Proofs
open Go Go.Pi Go.RowKit Go.Ar Go.Ge Go.Kk

end Go.Proofs

/-
 KINK: the law Areas (given Make and of). Own work.
-/
namespace Go.Proofs
open Go Go.Pi Go.RowKit Go.Ar Go.Ge Go.Kk

theorem quar_lt {x y : Int} : quar x < quar y ↔ x < y := by
 have e : ∀ z : Int, quar z = (z : Rat) / 4 := fun z => by unfold quar; rw [Rat.mkRat_eq_div]; rfl
 rw [e, e]
 constructor
 ·intro h
  have : (x : Rat) < (y : Rat) := by grind
  exact_mod_cast this
 ·intro h
  have : (x : Rat) < (y : Rat) := by exact_mod_cast h
  grind
end Go.Proofs

/-
 KINK: KinkBalances. Own work.
-/
namespace Go.Proofs
open Go Go.Pi Go.RowKit Go.Ar Go.Ge Go.Kk

set_option maxRecDepth 100000 in
set_option maxHeartbeats 16000000 in
theorem Tryz.lBalances (p : PlK) (hp : p.fit) (x y : Int) (hx : i8K x) (hy : i8K y) : Con Tryz.prog Tryz.L 12 [.agg p.D, .agg [.int .i8 x, .int .i8 y]] (.bool true) := by
 have ck := Tryz.kknown
 refine rule12 Tryz.hL rfl rfl rfl ?_
 simp only [PlK.D, pc12, rs12, oU, oC, evX, evY, evZ, forall_const, implies_true, initE, stepF, D.clean, mvF, moF, tkF, shF, ariF, ciF, catF, scF, ebF, eqF, eqOk, eqPr, enF, notF, ngF, cvF, csF, csbF, lenF, lenSF, ixF, iaF, PX.slot, iaAF, faF, ldF, D.mem, stF, bxF, mkSF, boundF, fldF, ixAF, mmF2, D.plain, D.isPure, optAll, D.dull, callVF, splice, D.cells, D.one, sets, resT, D.flat, D.flat0, D.simple, Nat.reduceBNe, Nat.reduceLT, reduceIte, Nat.reduceEqDiff, Nat.reduceAdd, Nat.reduceMul, Nat.reduceSub, Nat.reduceLeDiff, Int.reduceToNat, Int.reduceLT, Int.reduceLE, Int.reduceEq, Int.reduceNeg, Int.reduceSub, Int.reduceAdd, Int.reduceMul, stG_own]
 refine callF_of ck ?_
 (refine ev ?_; try exact ⟨⟩)
 refine ⟨fun h => ?_, fun h => ?_⟩
 ·refine callF_of ck ?_
  (refine ev ?_; try exact ⟨⟩)
 ·have hok := hp.ok (by omega)
  have hs := p.psz hok
  have ho := p.okT
  obtain ⟨lo, hlo⟩ : ∃ lo : Int, lo = if y < x then y else x := ⟨_, rfl⟩
  obtain ⟨hi, hhi⟩ : ∃ hi : Int, hi = if y > x then y else x := ⟨_, rfl⟩
  have h1 : i8K lo := by unfold i8K at *; omega
  have h2 : i8K hi := by unfold i8K at *; omega
  have h12 : lo ≤ hi := by omega
  have c1 := Tryz.makeOk p hok
  have c3 := Tryz.rof lo 4 (by decide) (by unfold i8K at h1; rw [inR_i64]; omega) (by rw [inR_i64]; omega)
  have c3' := Tryz.rof hi 4 (by decide) (by unfold i8K at h2; rw [inR_i64]; omega) (by rw [inR_i64]; omega)
  change Con _ _ _ _ (.tup [.str (rt (quar lo)), .int .i64 0]) at c3
  change Con _ _ _ _ (.tup [.str (rt (quar hi)), .int .i64 0]) at c3'
  have hqa := quar_rd h1
  have hqb := quar_rd h2
  have hab : quar lo = quar hi ∨ quar lo < quar hi := by
   rcases Int.lt_or_le lo hi with h | h
   ·exact .inr (quar_lt.2 h)
   ·exact .inl (by rw [show lo = hi by omega])
  have hla := fun k (hk : k < p.pf.n) => p.ln_rd hok hqa hk
  have hlb := fun k (hk : k < p.pf.n) => p.ln_rd hok hqb hk
  have hba := fun k (hk : k ≤ p.pf.n) => p.bd_sz hok hqa hk
  have hbb := fun k (hk : k ≤ p.pf.n) => p.bd_sz hok hqb hk
  simp only [PlK.D] at c1
  simp only [pfD] at c1
  refine callF_of c1 ?_
  (refine ev ?_; try exact ⟨⟩)
  rw [← hlo]
  refine ⟨by decide, by decide, by unfold i8K at h1; omega, ?_⟩
  refine callF_of c3 ?_
  (refine ev ?_; try exact ⟨⟩)
  rw [← hhi]
  refine ⟨by decide, by decide, by unfold i8K at h2; omega, ?_⟩
  refine callF_of c3' ?_
  (refine ev ?_; try exact ⟨⟩)
  generalize quar lo = a at *
  generalize quar hi = b at *
  generalize p.pf = f at *
  clear c1 c3 c3' hlo hhi h1 h2 h12
  have hn4 := hs.n
  have e3 : f.n * (10 + 1) ≤ 4 * 11 := Nat.mul_le_mul hn4 (by omega)
  have e1 := rd_sumN (f := f.ln a) (m := 10) (n := f.n) (fun k hk => hla k hk)
  have e2 := rd_sumN (f := f.ln b) (m := 10) (n := f.n) (fun k hk => hlb k hk)
  have d1 := Tryz.kLength f hs a (by omega) (by omega)
  have d1' := Tryz.kLength f hs b (by omega) (by omega)
  simp only [pfD] at d1 d1'
  cases hwa : f.win a with
  | false =>
    rw [hwa, if_neg (by decide)] at d1
    refine callF_of d1 ?_
    (refine ev ?_; try exact ⟨⟩)
    cases hwb : f.win b with
    | false =>
      rw [hwb, if_neg (by decide)] at d1'
      refine callF_of d1' ?_
      (refine ev ?_; try exact ⟨⟩)
    | true =>
      rw [hwb, if_pos rfl] at d1'
      refine callF_of d1' ?_
      (refine ev ?_; try exact ⟨⟩)
  | true =>
    rw [hwa, if_pos rfl] at d1
    refine callF_of d1 ?_
    (refine ev ?_; try exact ⟨⟩)
    cases hwb : f.win b with
    | false =>
      rw [hwb, if_neg (by decide)] at d1'
      refine callF_of d1' ?_
      (refine ev ?_; try exact ⟨⟩)
    | true =>
      rw [hwb, if_pos rfl] at d1'
      refine callF_of d1' ?_
      (refine ev ?_; try exact ⟨⟩)
      intro hne
      have hlt : a < b := by
       rcases hab with h | h
       ·exact absurd (by rw [h]) hne
       ·exact h
      have hmw := win_mid f hwa hwb
      have lm := len_mid f a b f.n
      have m1 := rd_mul (a + b) (1 / 2)
      have m2 := rd_add a b
      have e6 : rd (1 / 2 : Rat) ≤ 1 := by decide +kernel
      have m3 := rd_add (sumN (f.ln a) f.n) (sumN (f.ln b) f.n)
      have m4 := rd_mul (sumN (f.ln a) f.n + sumN (f.ln b) f.n) (1 / 2)
      have m5 := rd_mul ((sumN (f.ln a) f.n + sumN (f.ln b) f.n) * (1 / 2)) (b - a)
      have m6 := rd_sub b a
      have k1 := Tryz.kmiddle a b (by omega) (by omega)
      have k2 := Tryz.kLength f hs ((a + b) * (1 / 2)) (by omega) (by rw [lm]; omega)
      rw [hmw, if_pos rfl, lm] at k2
      have k3 := Tryz.kBed f hs a (by omega) (fun k hk => (hba k hk).mono (by omega))
      rw [hwa, if_pos rfl] at k3
      have k4 := Tryz.kArea f hs a b (by omega) (by omega) (by omega)
      rw [hwa, hwb, if_pos (by decide), if_pos hlt] at k4
      have k5 := Tryz.kmiddle (sumN (f.ln a) f.n) (sumN (f.ln b) f.n) (by omega) (by omega)
      simp only [pfD] at k2 k3 k4
      refine callF_of k1 ?_
      (refine ev ?_; try exact ⟨⟩)
      refine callF_of k2 ?_
      (refine ev ?_; try exact ⟨⟩)
      refine callF_of k3 ?_
      (refine ev ?_; try exact ⟨⟩)
      refine callF_of k4 ?_
      (refine ev ?_; try exact ⟨⟩)
      refine callF_of k5 ?_
      (refine ev ?_; try exact ⟨⟩)
      have hwl : ∀ k, k < f.n → 0 < f.ln a k := by
       unfold Pf.win at hwa; rwa [decide_eq_true_iff] at hwa
      generalize hX : (sumN (f.ln a) f.n + sumN (f.ln b) f.n) * (1 / 2) * (b - a) = X at *
      have htl := sgl_len (f.ln a)
      have h41 : rt (-1 : Rat) = [45, 49] := by decide +kernel
      refine loopF_of (fun E => ∃ j : Nat, j ≤ f.n ∧ E = [(5, .box true [.str (rt f.s.1), .str (rt f.s.2), .sl f.n (nms f.n f.t), .sl f.n (nms f.n f.l)]), (6, .str (rt a)), (8, .str (rt b)), (10, .str (rt (sumN (f.ln a) f.n))), (16, .sl (f.n + 1) (pts (lst (f.n + 1) (f.bd a)))), (18, .str (rt X)), (20, .own true 95 j (sgl (f.ln a) j)), (21, .int .i64 ((j : Int) + 1))])
       (fun E => match lk E 21 with | .int _ i => f.n + 1 - i.toNat | _ => 0) ⟨0, Nat.zero_le _, by simp [sgl, lst]⟩ ?_
      rintro _ ⟨j, hj, rfl⟩
      (refine ev ?_; try exact ⟨⟩)
      refine ⟨fun hjl => ?_, fun hjg => ?_⟩
      ·have hjn : j < f.n := by omega
       have g1 := Tryz.lkplus (f.bd a (j + 1)) (f.bd a j) (-1) ((hba (j + 1) (by omega)).mono (by omega)) ((hba j (by omega)).mono (by omega)) (by rw [rd_m1]; decide)
       have gz : Sz 300 (pl (f.bd a (j + 1)) (f.bd a j) (-1)) := ((hba (j + 1) (by omega)).pl (c := 1) (hba j (by omega)) (by rw [rd_m1]; decide)).mono (by omega)
       have g2 := Tryz.lkdot (pl (f.bd a (j + 1)) (f.bd a j) (-1)) (pl (f.bd a (j + 1)) (f.bd a j) (-1)) (gz.mono (by omega)) (gz.mono (by omega))
       rw [seg_dot f ho a hjn] at g2
       have g3 := Tryz.kroot (f.ln a j) (hwl j hjn) (by have := rd_mul (f.ln a j) (f.ln a j); have := hla j hjn; omega)
       rw [h41] at g1
       simp only [ptD, pD] at g1 g2
       refine ⟨⟨by omega, by omega, by rw [ptsL_len]; omega⟩, ?_⟩
       rw [show ((j : Int) + 1).toNat = j + 1 by omega, ldC_ptsT]
       refine ⟨by omega, ?_⟩
       simp only [pD, evX, evY, evZ, forall_const, implies_true, initE, stepF, D.clean, mvF, moF, tkF, shF, ariF, ciF, catF, scF, ebF, eqF, eqOk, eqPr, enF, notF, ngF, cvF, csF, csbF, lenF, lenSF, ixF, iaF, PX.slot, iaAF, faF, ldF, D.mem, stF, bxF, mkSF, boundF, fldF, ixAF, mmF2, D.plain, D.isPure, optAll, D.dull, callVF, splice, D.cells, D.one, sets, resT, D.flat, D.flat0, D.simple, Nat.reduceBNe, Nat.reduceLT, reduceIte, Nat.reduceEqDiff, Nat.reduceAdd, Nat.reduceMul, Nat.reduceSub, Nat.reduceLeDiff, Int.reduceToNat, Int.reduceLT, Int.reduceLE, Int.reduceEq, Int.reduceNeg, Int.reduceSub, Int.reduceAdd, Int.reduceMul, stG_own]
       refine ⟨⟨by omega, by omega⟩, ⟨by omega, by omega, by rw [ptsL_len]; omega⟩, ?_⟩
       rw [show ((j : Int) + 1 - 1).toNat = j by omega, ldC_ptsT]
       refine ⟨by omega, ?_⟩
       simp only [pD, evX, evY, evZ, forall_const, implies_true, initE, stepF, D.clean, mvF, moF, tkF, shF, ariF, ciF, catF, scF, ebF, eqF, eqOk, eqPr, enF, notF, ngF, cvF, csF, csbF, lenF, lenSF, ixF, iaF, PX.slot, iaAF, faF, ldF, D.mem, stF, bxF, mkSF, boundF, fldF, ixAF, mmF2, D.plain, D.isPure, optAll, D.dull, callVF, splice, D.cells, D.one, sets, resT, D.flat, D.flat0, D.simple, Nat.reduceBNe, Nat.reduceLT, reduceIte, Nat.reduceEqDiff, Nat.reduceAdd, Nat.reduceMul, Nat.reduceSub, Nat.reduceLeDiff, Int.reduceToNat, Int.reduceLT, Int.reduceLE, Int.reduceEq, Int.reduceNeg, Int.reduceSub, Int.reduceAdd, Int.reduceMul, stG_own]
       refine callF_of g1 ?_
       (refine ev ?_; try exact ⟨⟩)
       refine callF_of g2 ?_
       (refine ev ?_; try exact ⟨⟩)
       refine callF_of g3 ?_
       (refine ev ?_; try exact ⟨⟩)
       exact ⟨by omega, by omega, ⟨by omega, by omega⟩, ⟨j + 1, by omega, by rw [sgl_succ]; rfl, by simp⟩, by omega⟩
      ·obtain rfl : j = f.n := by omega
       obtain ⟨s1, s2⟩ := Tryz.kSum (f.ln a) f.n hs.n0 hs.n hwl (fun k hk => by have := hla k hk; omega)
       refine callF_of s1 ?_
       (refine ev ?_; try exact ⟨⟩)
       refine callF_of s2 ?_
       (refine ev ?_; try exact ⟨⟩)
       clear s1 s2 k1 k2 k3 k4 k5
       have hterm := fun k (hk : k < f.n) => (by
        have q1 := hla k hk; have q2 := hlb k hk
        have q3 := rd_add (f.ln a k) (f.ln b k)
        have q4 := rd_mul (f.ln a k + f.ln b k) (b - a)
        omega : rd ((f.ln a k + f.ln b k) * (b - a)) ≤ 40)
       have htot := fun k (hk : k ≤ f.n) => (by
        have q1 := rd_sumN (f := fun j => (f.ln a j + f.ln b j) * (b - a)) (m := 40) (n := k) (fun i hi => hterm i (by omega))
        have q2 : k * (40 + 1) ≤ 4 * 41 := Nat.mul_le_mul (by omega) (Nat.le_refl _)
        show rd (sumN _ k) ≤ 200
        omega : rd (tot f a b k) ≤ 200)
       have hXX := tot_two f a b f.n
       rw [hX] at hXX
       have h0t : tot f a b 0 = 0 := rfl
       have h48 : rt (0 : Rat) = [48] := by decide +kernel
       refine loopF_of (fun E => ∃ k : Nat, k ≤ f.n ∧ E = [(5, .box true [.str (rt f.s.1), .str (rt f.s.2), .sl f.n (nms f.n f.t), .sl f.n (nms f.n f.l)]), (6, .str (rt a)), (8, .str (rt b)), (18, .str (rt X)), (28, .str (rt (tot f a b k))), (29, .int .i64 k)])
        (fun E => match lk E 29 with | .int _ i => f.n - i.toNat | _ => 0) ⟨0, Nat.zero_le _, by rw [h0t, h48]; rfl⟩ ?_
       rintro _ ⟨k, hk, rfl⟩
       (refine ev ?_; try exact ⟨⟩)
       refine ⟨fun hkl => ?_, fun hkg => ?_⟩
       ·have hkn : k < f.n := by omega
        have q1 := Tryz.kQuad f hs k (by rw [inR_i64]; omega) a b (by omega) (by omega) (fun k hk => ⟨(hba k hk).mono (by omega), (hbb k hk).mono (by omega)⟩)
        rw [hwa, hwb, if_pos (by omega), if_pos (by decide), if_pos hlt, Int.toNat_natCast] at q1
        simp only [pfD] at q1
        obtain ⟨qa1, qa2⟩ := quad_area f ho a b hkn
        have ra : rd (f.ln a k * (b - a)) ≤ 40 := by have := hla k hkn; have := rd_mul (f.ln a k) (b - a); omega
        have rb : rd (f.ln b k * (b - a)) ≤ 40 := by have := hlb k hkn; have := rd_mul (f.ln b k) (b - a); omega
        have z0 : Sz 90 (qd f a b k 0) := (hba k (by omega)).mono (by omega)
        have z1 : Sz 90 (qd f a b k 1) := (hba (k + 1) (by omega)).mono (by omega)
        have z2 : Sz 90 (qd f a b k 2) := (hbb (k + 1) (by omega)).mono (by omega)
        have z3 : Sz 90 (qd f a b k 3) := (hbb k (by omega)).mono (by omega)
        have v1 := Tryz.vArea _ _ _ z0 z1 z2 (by rw [qa1]; omega)
        have v2 := Tryz.vArea _ _ _ z0 z2 z3 (by rw [qa2]; omega)
        rw [qa1] at v1
        rw [qa2] at v2
        have w0 := htot k (by omega)
        have w1 := Tryz.radd (tot f a b k) (f.ln a k * (b - a)) (by omega) (by omega)
        have w2 := rd_add (tot f a b k) (f.ln a k * (b - a))
        have w3 := Tryz.radd (tot f a b k + f.ln a k * (b - a)) (f.ln b k * (b - a)) (by omega) (by omega)
        rw [tot_succ] at w3
        simp only [ptD, pD] at v1 v2
        have hpt : pts (lst 4 (qd f a b k)) = [.str (rt (qd f a b k 0).1), .str (rt (qd f a b k 0).2), .str (rt (qd f a b k 1).1), .str (rt (qd f a b k 1).2), .str (rt (qd f a b k 2).1), .str (rt (qd f a b k 2).2), .str (rt (qd f a b k 3).1), .str (rt (qd f a b k 3).2)] := rfl
        rw [hpt] at q1
        clear hpt z0 z1 z2 z3 qa1 qa2
        generalize qd f a b k 0 = u0 at *
        generalize qd f a b k 1 = u1 at *
        generalize qd f a b k 2 = u2 at *
        generalize qd f a b k 3 = u3 at *
        refine callF_of q1 ?_
        (refine ev ?_; try exact ⟨⟩)
        refine ⟨fun h => absurd rfl h, fun _ => ?_⟩
        refine loopF_of (fun E => ∃ (m : Int) (T : Rat), ((m = 2 ∧ T = tot f a b k) ∨ (m = 3 ∧ T = tot f a b k + f.ln a k * (b - a)) ∨ (m = 4 ∧ T = tot f a b (k + 1))) ∧ E = [(5, .box true [.str (rt f.s.1), .str (rt f.s.2), .sl f.n (nms f.n f.t), .sl f.n (nms f.n f.l)]), (6, .str (rt a)), (8, .str (rt b)), (18, .str (rt X)), (28, .str (rt T)), (29, .int .i64 k), (30, .sl 4 [.str (rt u0.1), .str (rt u0.2), .str (rt u1.1), .str (rt u1.2), .str (rt u2.1), .str (rt u2.2), .str (rt u3.1), .str (rt u3.2)]), (32, .int .i64 m)])
         (fun E => match lk E 32 with | .int _ i => 4 - i.toNat | _ => 0) ⟨2, _, .inl ⟨rfl, rfl⟩, rfl⟩ ?_
        rintro _ ⟨m, T, hm, rfl⟩
        rcases hm with ⟨rfl, rfl⟩ | ⟨rfl, rfl⟩ | ⟨rfl, rfl⟩
        ·(refine ev ?_; try exact ⟨⟩)
         repeat (refine ⟨by decide, ?_⟩)
         refine callF_of v1 ?_
         (refine ev ?_; try exact ⟨⟩)
         refine callF_of w1 ?_
         (refine ev ?_; try exact ⟨⟩)
         exact ⟨3, _, .inr (.inl ⟨rfl, rfl⟩), rfl, rfl⟩
        ·(refine ev ?_; try exact ⟨⟩)
         repeat (refine ⟨by decide, ?_⟩)
         refine callF_of v2 ?_
         (refine ev ?_; try exact ⟨⟩)
         refine callF_of w3 ?_
         (refine ev ?_; try exact ⟨⟩)
         exact ⟨4, _, .inr (.inr ⟨rfl, rfl⟩), rfl, rfl⟩
        ·(refine ev ?_; try exact ⟨⟩)
         exact ⟨⟨by omega, by omega⟩, ⟨k + 1, by omega, rfl, by simp⟩, by omega⟩
       ·obtain rfl : k = f.n := by omega
        have w9 := Tryz.rmul 2 X (by decide +kernel) (by omega)
        rw [show rt (2 : Rat) = [50] by decide +kernel, ← hXX] at w9
        refine callF_of w9 ?_
        (refine ev ?_; try exact ⟨⟩)
end Go.Proofs
