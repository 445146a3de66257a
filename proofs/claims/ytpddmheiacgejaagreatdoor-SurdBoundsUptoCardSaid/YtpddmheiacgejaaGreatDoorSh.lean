/-
  SURD: the reference's enclosures. Own work.
-/
import Derived.Test.YtpddmheiacgejaaGreatDoorSg
import Derived.Test.YtpddmheiacgejaaGreatDoorPj
namespace Go.Ar.At
open Go.Ar Go.Proofs

/-- the part of a term in the reference's bounds -/
def rbQ (s : Nat) (x : Tm) : Nat := nrt (x.1.num.natAbs * s * (x.1.num.natAbs * s) * x.2) / x.1.den
def rbF (s : Nat) (p : Int × Int) (x : Tm) : Int × Int := if x.1.num < 0 then (p.1 + -((rbQ s x : Int) + 1), p.2 + -(rbQ s x : Int)) else (p.1 + (rbQ s x : Int), p.2 + ((rbQ s x : Int) + 1))
def refB (l : List Tm) (s : Nat) : Int × Int := l.foldl (rbF s) (0, 0)
theorem tenc_ref {s : Nat} (hs : 0 < s) (x : Tm) (h0 : x.1 ≠ 0) : ∃ t u : Rat, TEnc x t u ∧ (if x.1 < 0 then t * s = -((rbQ s x : Rat) + 1) ∧ u * s = -(rbQ s x : Rat) else t * s = (rbQ s x : Rat) ∧ u * s = (rbQ s x : Rat) + 1) := by
  obtain ⟨h1, h2⟩ := nrt_spec (x.1.num.natAbs * s * (x.1.num.natAbs * s) * x.2)
  have hn : 0 < x.1.num.natAbs := by
    have : x.1.num ≠ 0 := fun e => h0 ((sign_num x.1).2.1.1 e)
    omega
  have hd := x.1.den_pos
  have e1 : rbQ s x * x.1.den ≤ nrt (x.1.num.natAbs * s * (x.1.num.natAbs * s) * x.2) := Nat.div_mul_le_self _ _
  have e2 : nrt (x.1.num.natAbs * s * (x.1.num.natAbs * s) * x.2) + 1 ≤ (rbQ s x + 1) * x.1.den := by
    have := Nat.lt_mul_div_succ (nrt (x.1.num.natAbs * s * (x.1.num.natAbs * s) * x.2)) hd
    unfold rbQ
    rw [Nat.mul_comm (_ + 1) x.1.den]; exact this
  have c1 : rbQ s x * x.1.den * (rbQ s x * x.1.den) ≤ x.1.num.natAbs * s * (x.1.num.natAbs * s) * x.2 := Nat.le_trans (Nat.mul_le_mul e1 e1) h1
  have c2 : x.1.num.natAbs * s * (x.1.num.natAbs * s) * x.2 ≤ (rbQ s x + 1) * x.1.den * ((rbQ s x + 1) * x.1.den) := by
    have := Nat.mul_le_mul e2 e2
    omega
  have d1 := Rat.natCast_le_natCast.2 c1
  have d2 := Rat.natCast_le_natCast.2 c2
  simp only [cast_mul, cast_add] at d1 d2
  have f1 : ((1 : Nat) : Rat) = 1 := rfl
  rw [f1] at d2
  have hsp : (0 : Rat) < s := Rat.natCast_pos.2 hs
  have hnp : (0 : Rat) < (x.1.num.natAbs : Rat) := Rat.natCast_pos.2 hn
  have hdp : (0 : Rat) < (x.1.den : Rat) := Rat.natCast_pos.2 hd
  have hq0 := nat_nonneg (rbQ s x)
  have hnum := num_eq x.1
  have habs : if x.1 < 0 then (x.1.num.natAbs : Rat) = -(x.1 * x.1.den) else (x.1.num.natAbs : Rat) = x.1 * x.1.den := by
    rw [← hnum]
    split
    · rename_i hneg
      have : x.1.num < 0 := (sign_num x.1).1.2 hneg
      have e : (x.1.num.natAbs : Int) = -x.1.num := by omega
      have e2 : ((x.1.num.natAbs : Int) : Rat) = ((-x.1.num : Int) : Rat) := by rw [e]
      rw [Rat.intCast_neg] at e2; exact e2
    · rename_i hneg
      have : ¬x.1.num < 0 := fun h => hneg ((sign_num x.1).1.1 h)
      have e : (x.1.num.natAbs : Int) = x.1.num := by omega
      have e2 : ((x.1.num.natAbs : Int) : Rat) = ((x.1.num : Int) : Rat) := by rw [e]
      exact e2
  generalize ((rbQ s x : Nat) : Rat) = q at *
  generalize (x.1.num.natAbs : Rat) = n at *
  generalize (x.1.den : Rat) = d at *
  generalize (s : Rat) = S at *
  have hm := Rat.mul_pos hnp hsp
  have key : ∀ A m : Rat, m ≠ 0 → A / m * m = A := fun A m h => by grind
  have k1 := key (q * d) (n * S) (by grind)
  have k2 := key ((q + 1) * d) (n * S) (by grind)
  generalize q * d / (n * S) = p at *
  generalize (q + 1) * d / (n * S) = r at *
  have g1 : 0 ≤ p := Rat.not_lt.1 fun h => by
    have h3 := Rat.mul_pos (show 0 < -p by grind) hm
    have h4 := Rat.mul_nonneg hq0 (show 0 ≤ d by grind)
    grind
  have g2 : 0 ≤ r := Rat.not_lt.1 fun h => by
    have h3 := Rat.mul_pos (show 0 < -r by grind) hm
    have h4 := Rat.mul_nonneg (show 0 ≤ q + 1 by grind) (show 0 ≤ d by grind)
    grind
  have g3 : p * p ≤ (x.2 : Rat) := Rat.not_lt.1 fun h => by
    have h3 := Rat.mul_pos (Rat.mul_pos (show 0 < p * p - (x.2 : Rat) by grind) hm) hm
    rw [← k1] at d1
    grind
  have g4 : (x.2 : Rat) ≤ r * r := Rat.not_lt.1 fun h => by
    have h3 := Rat.mul_pos (Rat.mul_pos (show 0 < (x.2 : Rat) - r * r by grind) hm) hm
    rw [← k2] at d2
    grind
  by_cases hneg : x.1 < 0
  · rw [if_pos hneg] at habs
    refine ⟨x.1 * r, x.1 * p, ⟨p, r, g1, g2, g3, g4, .inr ⟨hneg, rfl, rfl⟩⟩, ?_⟩
    rw [if_pos hneg]
    have hdne : d ≠ 0 := by grind
    constructor
    · have : (x.1 * r * S + (q + 1)) * d = 0 := by rw [habs] at k2; grind
      have := (rmul_zero this).resolve_right hdne
      grind
    · have : (x.1 * p * S + q) * d = 0 := by rw [habs] at k1; grind
      have := (rmul_zero this).resolve_right hdne
      grind
  · rw [if_neg hneg] at habs
    refine ⟨x.1 * p, x.1 * r, ⟨p, r, g1, g2, g3, g4, .inl ⟨by grind, rfl, rfl⟩⟩, ?_⟩
    rw [if_neg hneg]
    have hdne : d ≠ 0 := by grind
    constructor
    · have : (x.1 * p * S - q) * d = 0 := by rw [habs] at k1; grind
      have := (rmul_zero this).resolve_right hdne
      grind
    · have : (x.1 * r * S - (q + 1)) * d = 0 := by rw [habs] at k2; grind
      have := (rmul_zero this).resolve_right hdne
      grind
theorem ref_fold {s : Nat} (hs : 0 < s) : ∀ {l : List Tm} {p : Int × Int}, (∀ x ∈ l, x.1 ≠ 0) →
    ∃ lo hi : Rat, Enc l lo hi ∧ ((l.foldl (rbF s) p).1 : Rat) = p.1 + lo * s ∧ ((l.foldl (rbF s) p).2 : Rat) = p.2 + hi * s ∧ (hi - lo) * s = (l.length : Rat)
  | [], p, _ => ⟨0, 0, ⟨rfl, rfl⟩, by rw [Rat.zero_mul, Rat.add_zero]; rfl, by rw [Rat.zero_mul, Rat.add_zero]; rfl, by
      have e : ((0 : Rat) - 0) * s = 0 := by grind
      rw [e]; rfl⟩
  | x :: l, p, h => by
    obtain ⟨lo, hi, h1, h2, h3, h4⟩ := ref_fold hs (l := l) (p := rbF s p x) fun y hy => h y (List.mem_cons_of_mem _ hy)
    obtain ⟨t, u, k1, k2⟩ := tenc_ref hs x (h x (List.mem_cons_self ..))
    have el : ((l.length + 1 : Nat) : Rat) = (l.length : Rat) + 1 := cast_add _ _
    refine ⟨t + lo, u + hi, ⟨t, u, lo, hi, k1, h1, rfl, rfl⟩, ?_⟩
    show ((l.foldl (rbF s) (rbF s p x)).1 : Rat) = _ ∧ ((l.foldl (rbF s) (rbF s p x)).2 : Rat) = _ ∧ _ = ((l.length + 1 : Nat) : Rat)
    rw [h2, h3, el]
    unfold rbF
    have c1 : (((rbQ s x : Nat) : Int) : Rat) = ((rbQ s x : Nat) : Rat) := rfl
    have c2 : ((1 : Int) : Rat) = 1 := rfl
    by_cases hneg : x.1 < 0
    · rw [if_pos ((sign_num x.1).1.2 hneg)]
      rw [if_pos hneg] at k2
      obtain ⟨k3, k4⟩ := k2
      simp only [Rat.intCast_add, Rat.intCast_neg, c1, c2]
      refine ⟨by grind, by grind, by grind⟩
    · rw [if_neg (fun hh => hneg ((sign_num x.1).1.1 hh))]
      rw [if_neg hneg] at k2
      obtain ⟨k3, k4⟩ := k2
      simp only [Rat.intCast_add, c1, c2]
      refine ⟨by grind, by grind, by grind⟩
end Go.Ar.At

/-
  SURD: an enclosure that is narrow holds no whole number: then both whole parts agree. Own work.
-/
namespace Go.Ar.At
open Go.Ar Go.Proofs

theorem bd_of_val {M : Int} {v : Rat} {s : Nat} {B : Nat} (h : v * 12 = (M : Rat)) (hM : M.natAbs ≤ 12 * B) : Bd B v ∧ Dn 12 v := by
  have h1 : (M : Rat) ≤ ((12 * B : Nat) : Rat) := Rat.intCast_le_intCast.2 (show M ≤ ((12 * B : Nat) : Int) by omega)
  have h2 : -((12 * B : Nat) : Rat) ≤ (M : Rat) := by
    have := Rat.intCast_le_intCast.2 (show -((12 * B : Nat) : Int) ≤ M by omega)
    rw [Rat.intCast_neg] at this; exact this
  rw [cast_mul] at h1 h2
  have f : ((12 : Nat) : Rat) = 12 := rfl
  rw [f] at h1 h2
  refine ⟨⟨?_, ?_⟩, M, h⟩ <;> grind
theorem div_le {a s : Rat} {B : Nat} (hs : 1 ≤ s) (h : Bd B (a * s)) : Bd B a := by
  have hB := nat_nonneg B
  obtain ⟨h1, h2⟩ := h
  constructor
  · refine Rat.not_lt.1 fun hh => ?_
    have := Rat.mul_nonneg (show 0 ≤ a by grind) (show 0 ≤ s - 1 by grind)
    grind
  · refine Rat.not_lt.1 fun hh => ?_
    have := Rat.mul_nonneg (show 0 ≤ -a by grind) (show 0 ≤ s - 1 by grind)
    grind
theorem mk_bd {l : List Tm} (h : Mk 6 l) : (∀ b, Bd 1200 (vlB b l) ∧ Dn 12 (vlB b l)) ∧ ∀ x ∈ l, Bd 1200 x.1 := by
  have h1 : ∀ b, Bd 1200 (vlB b l) ∧ Dn 12 (vlB b l) := fun b => by
    obtain ⟨M, h1, h2⟩ := h.val b
    exact bd_of_val (s := 1) h2 (by omega)
  refine ⟨h1, fun x hx => ?_⟩
  have h2 := (h1 (bs x.2).1).1
  rw [← h.can.val hx] at h2
  obtain ⟨_, _, p2, _⟩ := r10_form _ (h.can.rad x hx)
  exact div_le (Rat.natCast_le_natCast.2 (show 1 ≤ (bs x.2).2 from p2)) h2
theorem sumQ_bd {N : Nat} (hN : 0 < N) : ∀ {l : List Tm}, (∀ x ∈ l, x.2 ∈ R10 ∧ Bd 1200 x.1) → Bd (1200 * 32 * l.length) (sumQ N l)
  | [], _ => ⟨nat_nonneg _, by have := nat_nonneg (1200 * 32 * ([] : List Tm).length); show _ ≤ (0 : Rat); grind⟩
  | x :: l, h => by
    obtain ⟨h1, h2⟩ := h x (List.mem_cons_self ..)
    have ih := sumQ_bd hN (l := l) fun y hy => h y (List.mem_cons_of_mem _ hy)
    have hq := (qr_spec hN x.2 (r_le h1)).1
    have h3 := (h2.mul (show Bd 32 (qr N x.2) from ⟨hq.2, by have := nat_nonneg 32; grind⟩)).add ih
    exact h3.le (by rw [List.length_cons, Nat.mul_succ]; omega)

/-- AN INTEGER IN A NARROW ENCLOSURE is the number itself -/
theorem exact_of {l : List Tm} (h : Mk 6 l) {N : Nat} (hN : 2 ^ 1024 ≤ N) {y : Nat} (hy : y ≤ 1000000) {lo hi : Rat} (he : Enc l lo hi) {W : Nat} (hW : W ≤ 10000000000000) (hw : (y : Rat) * (hi - lo) * N ≤ W) {z : Int} (h1 : lo * y ≤ (z : Rat)) (h2 : (z : Rat) ≤ hi * y) :
    (y : Rat) * vlB 1 l - z = 0 ∧ ∀ b ∈ [2, 3, 6, 10, 30, 1009], (y : Rat) * vlB b l = 0 := by
  have hp : 0 < N := Nat.lt_of_lt_of_le (Nat.pow_pos (by decide)) hN
  have hN0 : (0 : Rat) < N := Rat.natCast_pos.2 hp
  obtain ⟨vb, xb⟩ := mk_bd h
  have hl := h.len
  have hall : ∀ x ∈ l, x.2 ∈ R10 ∧ Bd 1200 x.1 := fun x hx => ⟨h.can.rad x hx, xb x hx⟩
  obtain ⟨a, b, g1, _, _, g2, g3, g4⟩ := enc_fold hp (denL_pos (l := l) (d := 1) (by decide)) (p := (0, 0)) (m := 1200) (l := l) (fun x hx => ⟨den_dvd hx, xb x hx⟩)
  have x1 := g1.cross he
  have x2 := he.cross g1
  have hyn := nat_nonneg y
  have hyN : (y : Rat) ≤ ((1000000 : Nat) : Rat) := Rat.natCast_le_natCast.2 hy
  -- the sum at the scale N is near z / y
  have s1 : Sm N (W + 1200 * 6 * 1000000) ((y : Rat) * sumQ N l - z) := by
    have e1 : ((1200 * l.length : Nat) : Rat) ≤ ((7200 : Nat) : Rat) := Rat.natCast_le_natCast.2 (by omega)
    have f1 : ((1200 * 6 * 1000000 : Nat) : Rat) = ((7200 : Nat) : Rat) * ((1000000 : Nat) : Rat) := by rw [← cast_mul]
    unfold Sm
    rw [cast_add, f1]
    have f72 : (0 : Rat) ≤ ((7200 : Nat) : Rat) := nat_nonneg _
    generalize ((1200 * l.length : Nat) : Rat) = ml at *
    generalize ((7200 : Nat) : Rat) = k at *
    generalize ((1000000 : Nat) : Rat) = Y at *
    generalize (y : Rat) = y at *
    generalize (W : Rat) = W at *
    generalize (N : Rat) = n at *
    generalize (z : Rat) = z at *
    generalize sumQ N l = s at *
    have p1 := Rat.mul_nonneg hyn (show 0 ≤ hi * n - a * n by have := Rat.mul_nonneg (show 0 ≤ hi - a by grind) (show 0 ≤ n by grind); grind)
    have p2 := Rat.mul_nonneg hyn (show 0 ≤ b * n - lo * n by have := Rat.mul_nonneg (show 0 ≤ b - lo by grind) (show 0 ≤ n by grind); grind)
    have p3 := Rat.mul_nonneg hyn (show 0 ≤ k - (b - a) * n by grind)
    have p4 := Rat.mul_nonneg (show 0 ≤ Y - y by grind) f72
    have p5 := Rat.mul_nonneg hyn (show 0 ≤ b * n - s * n by have := Rat.mul_nonneg (show 0 ≤ b - s by grind) (show 0 ≤ n by grind); grind)
    have p6 := Rat.mul_nonneg hyn (show 0 ≤ s * n - a * n by have := Rat.mul_nonneg (show 0 ≤ s - a by grind) (show 0 ≤ n by grind); grind)
    have p7 := Rat.mul_nonneg (show 0 ≤ z - lo * y by grind) (show 0 ≤ n by grind)
    have p8 := Rat.mul_nonneg (show 0 ≤ hi * y - z by grind) (show 0 ≤ n by grind)
    constructor <;> grind
  have s2 := (cmbL_sum hp hall).mul (Bd.nat y)
  have s3 : Sm N 1000000000000000 (cmb N ((y : Rat) * vlB 1 l - z) (y * vlB 2 l) (y * vlB 3 l) (y * vlB 6 l) (y * vlB 10 l) (y * vlB 30 l) (y * vlB 1009 l)) := by
    refine ((s1.add s2).congr (y := _) (by unfold cmbL cmb kv; grind)).le ?_
    have : 7600 * 1200 * l.length ≤ 54720000 := by omega
    have := Nat.mul_le_mul this hy
    omega
  have sb := sumQ_bd hp hall
  have bz : Bd 100000000000000 (z : Rat) := by
    have b1 := (Bd.nat y).mul sb
    have b2 : Bd (1000000 * 230400) ((y : Rat) * sumQ N l) := b1.le (Nat.mul_le_mul hy (by omega))
    have hge : ((1 : Nat) : Rat) ≤ (N : Rat) := Rat.natCast_le_natCast.2 hp
    have f1 : ((1 : Nat) : Rat) = 1 := rfl
    rw [f1] at hge
    have b3 := div_le hge s1
    have b4 := (b2.sub b3).le (E := 100000000000000) (by omega)
    have e : (y : Rat) * sumQ N l - ((y : Rat) * sumQ N l - z) = z := by grind
    rw [e] at b4; exact b4
  have cv : ∀ b, Bd 1200000000 ((y : Rat) * vlB b l) ∧ Dn 12 ((y : Rat) * vlB b l) := fun b =>
    ⟨((Bd.nat y).mul (vb b).1).le (by have := Nat.mul_le_mul_right 1200 hy; omega), (vb b).2.smul y⟩
  have key := indep hN s3 (by
    intro c hc
    simp only [List.mem_cons, List.not_mem_nil, or_false] at hc
    rcases hc with rfl | rfl | rfl | rfl | rfl | rfl | rfl
    · refine ⟨((cv 1).1.sub bz).le (by decide), (cv 1).2.sub ⟨z * 12, ?_⟩⟩
      rw [Rat.intCast_mul]; rfl
    all_goals exact ⟨(cv _).1.le (by decide), (cv _).2⟩)
  refine ⟨key _ (by simp), fun b hb => ?_⟩
  simp only [List.mem_cons, List.not_mem_nil, or_false] at hb
  rcases hb with rfl | rfl | rfl | rfl | rfl | rfl <;> exact key _ (by simp)
/-- such a list is a rational number -/
theorem exact_rat {l : List Tm} (h : Mk 6 l) {y : Nat} (hy : 0 < y) (hz : ∀ b ∈ [2, 3, 6, 10, 30, 1009], (y : Rat) * vlB b l = 0) : ∀ x ∈ l, x.2 = 1 := by
  intro x hx
  have hr := h.can.rad x hx
  obtain ⟨_, _, p2, _, _, p5⟩ := r10_form _ hr
  refine p5 (Classical.byContradiction fun hb => ?_)
  have hm : (bs x.2).1 ∈ [2, 3, 6, 10, 30, 1009] := by
    simp only [List.mem_cons, List.not_mem_nil, or_false] at hr
    rcases hr with e | e | e | e | e | e | e | e | e | e <;> rw [e] at hb ⊢ <;> first | exact absurd rfl hb | decide
  have h1 := hz _ hm
  have h2 := (rmul_zero h1).resolve_left (nat_ne hy)
  rw [← h.can.val hx] at h2
  exact h.can.ne x hx ((rmul_zero h2).resolve_right (nat_ne p2))
end Go.Ar.At

/-
  SURD: whole parts of the program and of the reference. Own work.
-/
namespace Go.Ar.At
open Go.Ar Go.Proofs

theorem fl_spec {A : Int} {y T : Nat} (hT : 0 < T) {lo : Rat} (hA : (A : Rat) = lo * (T : Rat)) : ((A * (y : Int) / (T : Int) : Int) : Rat) ≤ lo * y ∧ lo * y < ((A * (y : Int) / (T : Int) : Int) : Rat) + 1 := by
  have hTi : (0 : Int) < (T : Int) := by omega
  have h1 : A * (y : Int) / (T : Int) * (T : Int) ≤ A * (y : Int) := Int.ediv_mul_le _ (by omega)
  have h2 : A * (y : Int) < (A * (y : Int) / (T : Int) + 1) * (T : Int) := Int.lt_ediv_add_one_mul_self _ hTi
  have c1 := Rat.intCast_le_intCast.2 h1
  have c2 := Rat.intCast_lt_intCast.2 h2
  simp only [Rat.intCast_mul, Rat.intCast_add, hA] at c1 c2
  have f1 : ((1 : Int) : Rat) = 1 := rfl
  have fy : (((y : Nat) : Int) : Rat) = (y : Rat) := rfl
  have fT : (((T : Nat) : Int) : Rat) = (T : Rat) := rfl
  rw [fy, fT] at c1 c2
  rw [f1] at c2
  have hTp : (0 : Rat) < (T : Rat) := Rat.natCast_pos.2 hT
  generalize ((A * (y : Int) / (T : Int) : Int) : Rat) = n at *
  generalize (T : Rat) = t at *
  constructor
  · refine Rat.not_lt.1 fun h => ?_
    have := Rat.mul_pos (show 0 < n - lo * y by grind) hTp
    grind
  · refine Rat.not_le.1 fun h => ?_
    have := Rat.mul_nonneg (show 0 ≤ lo * y - (n + 1) by grind) (show 0 ≤ t by grind)
    grind
theorem fl_lt {n m : Int} {r s : Rat} (h1 : (n : Rat) ≤ r) (h2 : s < (m : Rat) + 1) (h : r ≤ s) : n ≤ m := by
  have h3 : (n : Rat) < ((m + 1 : Int) : Rat) := by
    rw [Rat.intCast_add]; show (n : Rat) < (m : Rat) + 1; grind
  have := Rat.intCast_lt_intCast.1 h3
  omega
/-- in a narrow enclosure both whole parts are the same, but for rational numbers -/
theorem fl_same {l : List Tm} (h : Mk 6 l) (hn : ¬∀ x ∈ l, x.2 = 1) {N : Nat} (hN : 2 ^ 1024 ≤ N) {y : Nat} (hy0 : 0 < y) (hy : y ≤ 1000000) {lo hi : Rat} (he : Enc l lo hi) {W : Nat} (hW : W ≤ 10000000000000) (hw : (y : Rat) * (hi - lo) * N ≤ W)
    {n m : Int} (n1 : (n : Rat) ≤ lo * y) (n2 : lo * y < (n : Rat) + 1) (m1 : (m : Rat) ≤ hi * y) (m2 : hi * y < (m : Rat) + 1) : n = m := by
  have hlh := he.cross he
  have hyp := nat_nonneg y
  have hle : lo * y ≤ hi * y := by have := Rat.mul_nonneg (show 0 ≤ hi - lo by grind) hyp; grind
  have a := fl_lt n1 m2 hle
  refine Classical.byContradiction fun hne => ?_
  have hz : n + 1 ≤ m := by omega
  have hz2 := Rat.intCast_le_intCast.2 hz
  have e1 : ((n + 1 : Int) : Rat) = (n : Rat) + 1 := by rw [Rat.intCast_add]; rfl
  have := exact_of h hN hy he hW hw (z := n + 1) (by rw [e1]; grind) (by grind)
  exact hn (exact_rat h hy0 this.2)
/-- the program's whole parts -/
theorem prog_spec {l : List Tm} (h : Mk 6 l) (bits : Nat) (y : Nat) : ∃ lo hi : Rat, Enc l lo hi ∧ (((flL l y bits).1 : Rat) ≤ lo * y ∧ lo * y < ((flL l y bits).1 : Rat) + 1) ∧ (((flL l y bits).2 : Rat) ≤ hi * y ∧ hi * y < ((flL l y bits).2 : Rat) + 1) ∧
    lo ≤ sumQ (2 ^ bits) l ∧ sumQ (2 ^ bits) l ≤ hi ∧ (hi - lo) * (2 ^ bits : Nat) ≤ ((7200 : Nat) : Rat) := by
  have hp : 0 < 2 ^ bits := Nat.pow_pos (by decide)
  have hD := denL_pos (l := l) (d := 1) (by decide)
  obtain ⟨_, xb⟩ := mk_bd h
  obtain ⟨lo, hi, g1, g2, g3, g4, g5, g6⟩ := enc_fold hp hD (p := (0, 0)) (m := 1200) (l := l) (fun x hx => ⟨den_dvd hx, xb x hx⟩)
  have e4 : 2 ^ bits * 2 ^ bits = 4 ^ bits := by rw [← Nat.mul_pow]
  rw [e4] at g2 g3
  have z0 : (((0 : Int), (0 : Int)).1 : Rat) = 0 := rfl
  have z1 : (((0 : Int), (0 : Int)).2 : Rat) = 0 := rfl
  rw [z0, Rat.zero_add] at g2
  rw [z1, Rat.zero_add] at g3
  have hT : 0 < denL l * 2 ^ bits := Nat.mul_pos hD hp
  have eT : ((l.foldl denF 1 : Nat) : Rat) * (2 ^ bits : Nat) = ((denL l * 2 ^ bits : Nat) : Rat) := (cast_mul _ _).symm
  rw [eT] at g2 g3
  refine ⟨lo, hi, g1, fl_spec hT g2, fl_spec hT g3, g4, g5, ?_⟩
  have e1 : ((1200 * l.length : Nat) : Rat) ≤ ((7200 : Nat) : Rat) := Rat.natCast_le_natCast.2 (by have := h.len; omega)
  grind
theorem pow2_le {k m : Nat} (h : k ≤ m) : 2 ^ k ≤ 2 ^ m := Nat.pow_le_pow_right (by decide) h
theorem prog_same {l : List Tm} (h : Mk 6 l) (hn : ¬∀ x ∈ l, x.2 = 1) {bits : Nat} (hb : 1024 ≤ bits) {y : Nat} (hy0 : 0 < y) (hy : y ≤ 1000000) : (flL l y bits).1 = (flL l y bits).2 := by
  obtain ⟨lo, hi, he, ⟨n1, n2⟩, ⟨m1, m2⟩, _, _, hw⟩ := prog_spec h bits y
  refine fl_same h hn (@pow2_le 1024 bits hb) hy0 hy he (W := 1000000 * 7200) (by decide) ?_ n1 n2 m1 m2
  have hyp := nat_nonneg y
  have hyN : (y : Rat) ≤ ((1000000 : Nat) : Rat) := Rat.natCast_le_natCast.2 hy
  have h72 := nat_nonneg 7200
  rw [cast_mul]
  generalize ((7200 : Nat) : Rat) = k at *
  generalize ((1000000 : Nat) : Rat) = Y at *
  generalize ((2 ^ bits : Nat) : Rat) = n at *
  generalize (y : Rat) = y at *
  have p1 := Rat.mul_nonneg hyp (show 0 ≤ k - (hi - lo) * n by grind)
  have p2 := Rat.mul_nonneg (show 0 ≤ Y - y by grind) h72
  grind
/-- the reference's whole parts, at the scale s -/
def rfL (l : List Tm) (y s : Nat) : Int × Int := ((refB l (y * s)).1 / (s : Int), (refB l (y * s)).2 / (s : Int))
theorem ref_spec {l : List Tm} (h : Mk 6 l) {y s : Nat} (hy : 0 < y) (hs : 0 < s) : ∃ lo hi : Rat, Enc l lo hi ∧ (((rfL l y s).1 : Rat) ≤ lo * y ∧ lo * y < ((rfL l y s).1 : Rat) + 1) ∧ (((rfL l y s).2 : Rat) ≤ hi * y ∧ hi * y < ((rfL l y s).2 : Rat) + 1) ∧ (y : Rat) * (hi - lo) * s ≤ ((6 : Nat) : Rat) := by
  obtain ⟨lo, hi, g1, g2, g3, g4⟩ := ref_fold (Nat.mul_pos hy hs) (l := l) (p := (0, 0)) h.can.ne
  have z0 : (((0 : Int), (0 : Int)).1 : Rat) = 0 := rfl
  have z1 : (((0 : Int), (0 : Int)).2 : Rat) = 0 := rfl
  rw [z0, Rat.zero_add, cast_mul] at g2
  rw [z1, Rat.zero_add, cast_mul] at g3
  rw [cast_mul] at g4
  have f1 := fl_spec (A := (refB l (y * s)).1) (y := 1) (T := s) hs (lo := lo * y) (by show ((l.foldl (rbF (y * s)) (0, 0)).1 : Rat) = _; rw [g2]; grind)
  have f2 := fl_spec (A := (refB l (y * s)).2) (y := 1) (T := s) hs (lo := hi * y) (by show ((l.foldl (rbF (y * s)) (0, 0)).2 : Rat) = _; rw [g3]; grind)
  have o1 : (((1 : Nat) : Rat)) = 1 := rfl
  have o2 : ∀ A : Int, A * (((1 : Nat) : Int)) = A := fun A => Int.mul_one A
  rw [o2, o1, Rat.mul_one] at f1 f2
  refine ⟨lo, hi, g1, f1, f2, ?_⟩
  have e1 : ((l.length : Nat) : Rat) ≤ ((6 : Nat) : Rat) := Rat.natCast_le_natCast.2 h.len
  grind
theorem ref_same {l : List Tm} (h : Mk 6 l) (hn : ¬∀ x ∈ l, x.2 = 1) {s : Nat} (hs : 2 ^ 1024 ≤ s) {y : Nat} (hy0 : 0 < y) (hy : y ≤ 1000000) : (rfL l y s).1 = (rfL l y s).2 := by
  have hs0 : 0 < s := Nat.lt_of_lt_of_le (Nat.pow_pos (by decide)) hs
  obtain ⟨lo, hi, he, ⟨n1, n2⟩, ⟨m1, m2⟩, hw⟩ := ref_spec h hy0 hs0
  exact fl_same h hn hs hy0 hy he (W := 6) (by decide) hw n1 n2 m1 m2
/-- both find the same -/
theorem floors_meet {l : List Tm} (h : Mk 6 l) {bits y s : Nat} (hy : 0 < y) (hs : 0 < s) (h1 : (flL l y bits).1 = (flL l y bits).2) (h2 : (rfL l y s).1 = (rfL l y s).2) : (rfL l y s).1 = (flL l y bits).1 := by
  obtain ⟨lo, hi, he, ⟨n1, n2⟩, ⟨m1, m2⟩, _⟩ := prog_spec h bits y
  obtain ⟨lo', hi', he', ⟨n1', n2'⟩, ⟨m1', m2'⟩, _⟩ := ref_spec h hy hs
  have hyp := nat_nonneg y
  have c1 := he.cross he'
  have c2 := he'.cross he
  have d1 : lo * y ≤ hi' * y := by have := Rat.mul_nonneg (show 0 ≤ hi' - lo by grind) hyp; grind
  have d2 : lo' * y ≤ hi * y := by have := Rat.mul_nonneg (show 0 ≤ hi - lo' by grind) hyp; grind
  have e1 := fl_lt n1 m2' d1
  have e2 := fl_lt n1' m2 d2
  omega
/-- how great a whole part is -/
theorem fl_size {l : List Tm} (h : Mk 6 l) {bits y : Nat} (hy : y ≤ 1000000) : ((flL l y bits).1).natAbs ≤ 1000000000000 := by
  obtain ⟨lo, hi, he, ⟨n1, n2⟩, _, g4, g5, hw⟩ := prog_spec h bits y
  have hp : 0 < 2 ^ bits := Nat.pow_pos (by decide)
  obtain ⟨_, xb⟩ := mk_bd h
  have sb := (sumQ_bd hp (l := l) fun x hx => ⟨h.can.rad x hx, xb x hx⟩).le (E := 230400) (by have := h.len; omega)
  have hge : ((1 : Nat) : Rat) ≤ ((2 ^ bits : Nat) : Rat) := Rat.natCast_le_natCast.2 hp
  have o1 : ((1 : Nat) : Rat) = 1 := rfl
  rw [o1] at hge
  have hyp := nat_nonneg y
  have hyN : (y : Rat) ≤ ((1000000 : Nat) : Rat) := Rat.natCast_le_natCast.2 hy
  have k1 : ((7200 : Nat) : Rat) = 7200 := rfl
  have k2 : ((230400 : Nat) : Rat) = 230400 := rfl
  have k3 : ((1000000 : Nat) : Rat) = 1000000 := rfl
  rw [k1] at hw
  rw [k3] at hyN
  obtain ⟨b1, b2⟩ := sb
  rw [k2] at b1 b2
  have hlh := he.cross he
  have w1 : hi - lo ≤ 7200 := by
    have := Rat.mul_nonneg (show 0 ≤ hi - lo by grind) (show 0 ≤ ((2 ^ bits : Nat) : Rat) - 1 by grind)
    grind
  have l1 : lo ≤ 230400 := by grind
  have l2 : -240000 ≤ lo := by grind
  have q1 := Rat.mul_nonneg (show 0 ≤ 240000 - lo by grind) hyp
  have q2 := Rat.mul_nonneg (show 0 ≤ lo + 240000 by grind) hyp
  have hu : ((flL l y bits).1 : Rat) ≤ ((240000000000 : Int) : Rat) := by
    have : ((240000000000 : Int) : Rat) = 240000000000 := rfl
    rw [this]; grind
  have hd : ((-240000000001 : Int) : Rat) ≤ ((flL l y bits).1 : Rat) := by
    have : ((-240000000001 : Int) : Rat) = -240000000001 := rfl
    rw [this]; grind
  have i1 := Rat.intCast_le_intCast.1 hu
  have i2 := Rat.intCast_le_intCast.1 hd
  omega
end Go.Ar.At

/-
  SURD: Bounds, floor and the reference's bounds and Floor as contracts. Own work.
-/
namespace Go.Proofs
open Go Go.Pi Go.RowKit Go.Ar

set_option maxHeartbeats 4000000 in
theorem Tryz.bounds_gen (l : List Tm) (xs : List UInt8) (is ex : Bool) (den : Nat) (hd1 : 1 ≤ den) (hd2 : den ≤ 1000000) (n : Int) (hnl : dl n ≤ 150)
    (hr : Con Tryz.prog Tryz.L 21 [sg l] (.tup [.str xs, .bool is, .int .i64 0]))
    (hf : Con Tryz.prog Tryz.L 59 [sg l, .str xs, .bool is, .str (tz (den : Int))] (.tup [.str (tz n), .bool ex])) :
    Con Tryz.prog Tryz.L 22 [sg l, .int .i64 den] (.tup [.str (rt (mkRat n den)), .str (rt (mkRat (if ex then n else n + 1) den)), .int .i64 0]) := by
  have hdd : dl (den : Int) ≤ 7 := dd_len_le (by decide) (by rw [Int.natAbs_natCast]; omega)
  have hn1 := dl_add (x := n) (y := 1) (k := 150) (by omega) (by rw [dl_one]; omega)
  have ho1 := Tryz.over n den (by omega) (by omega) (by omega)
  have ho2 := Tryz.over (n + 1) den (by omega) (by omega) (by omega)
  have r1 : rd (mkRat n den) ≤ 200 := rd_mk (by omega) (by omega) (by have := dl_nat den; omega)
  have r2 : rd (mkRat (n + 1) den) ≤ 200 := rd_mk (by omega) (by omega) (by have := dl_nat den; omega)
  have had := Tryz.add n 1 (by omega) (by rw [dl_one]; omega)
  rw [one_tz] at had
  refine rule22 Tryz.hL rfl rfl rfl ?_
  (simp only [pc22, rs22]; refine ev ?_; try with_reducible exact trivial)
  refine callF_of hr ?_
  (refine ev ?_; try with_reducible exact trivial)
  refine ⟨fun h1 => ?_, fun h1 => ?_⟩
  · refine ⟨fun h2 => absurd h2 (by omega), fun _ => ?_⟩
    refine callF_of (Tryz.of den (by rw [inR_i64]; omega)) ?_
    (refine ev ?_; try with_reducible exact trivial)
    refine callF_of hf ?_
    (refine ev ?_; try with_reducible exact trivial)
    refine callF_of ho1 ?_
    (refine ev ?_; try with_reducible exact trivial)
    refine callF_of ho1 ?_
    cases ex with
    | false =>
      (refine ev ?_; try with_reducible exact trivial)
      refine callF_of had ?_
      (refine ev ?_; try with_reducible exact trivial)
      refine callF_of ho2 ?_
      (refine ev ?_; try with_reducible exact trivial)
      refine callF_of (Tryz.rcheckQ _ r1) ?_
      (refine ev ?_; try with_reducible exact trivial)
      refine callF_of (Tryz.rcheckQ _ r2) ?_
      (refine ev ?_; try with_reducible exact trivial)
      simp [resD, rvD, lk, D.plain, D.isPure, optAll]
    | true =>
      (refine ev ?_; try with_reducible exact trivial)
      refine callF_of (Tryz.rcheckQ _ r1) ?_
      (refine ev ?_; try with_reducible exact trivial)
      refine callF_of (Tryz.rcheckQ _ r1) ?_
      (refine ev ?_; try with_reducible exact trivial)
      simp [resD, rvD, lk, D.plain, D.isPure, optAll]
  · exact absurd hd1 (by omega)
theorem Tryz.bounds_bad (l : List Tm) (xs : List UInt8) (is : Bool) (den : Int) (hd : den < 1 ∨ 1000000 < den)
    (hr : Con Tryz.prog Tryz.L 21 [sg l] (.tup [.str xs, .bool is, .int .i64 0])) :
    Con Tryz.prog Tryz.L 22 [sg l, .int .i64 den] (.tup [.str [], .str [], .int .i64 3]) := by
  refine rule22 Tryz.hL rfl rfl rfl ?_
  (simp only [pc22, rs22]; refine ev ?_; try with_reducible exact trivial)
  refine callF_of hr ?_
  (refine ev ?_; try with_reducible exact trivial)
  refine ⟨fun h1 => ⟨fun h2 => ?_, fun h2 => absurd hd (by omega)⟩, fun h1 => ?_⟩ <;> simp [resD, rvD, lk, D.plain, D.isPure, optAll]
theorem Tryz.floorR (l : List Tm) (q : Rat) (hq : rd q ≤ 200) (y : Nat) (hy : dl (y : Int) ≤ 200) : Con Tryz.prog Tryz.L 59 [sg l, .str (rt q), .bool true, .str (tz (y : Int))] (.tup [.str (tz (q.num * y / q.den)), .bool (dB (q.num * y % q.den = 0))]) := by
  have h1 := rd_num q
  have h2 : dl (q.den : Int) ≤ rd q := rd_den q
  have h3 := dl_mul q.num y
  refine rule59 Tryz.hL rfl rfl rfl ?_
  (simp only [pc59, rs59]; refine ev ?_; try with_reducible exact trivial)
  refine callF_of (Tryz.rparts q (by omega)) ?_
  (refine ev ?_; try with_reducible exact trivial)
  refine callF_of (Tryz.mul q.num y (by omega) (by omega)) ?_
  (refine ev ?_; try with_reducible exact trivial)
  refine callF_of (Tryz.divMod (q.num * y) q.den (by omega) (by omega) (by have := q.den_pos; omega)) ?_
  (refine ev ?_; try with_reducible exact trivial)
  rw [tz_zero]
  simp [resD_two, rvD, lk, D.plain, D.isPure, optAll]

theorem rbF_dl {s n : Nat} {p : Int × Int} {x : Tm} (hs : dl (s : Int) ≤ 1000) (h1 : rd x.1 ≤ 200) (h2 : dl (x.2 : Int) ≤ 200) (hn : 3000 ≤ n) (p1 : dl p.1 ≤ n) (p2 : dl p.2 ≤ n) :
    dl (At.rbF s p x).1 ≤ n + 1 ∧ dl (At.rbF s p x).2 ≤ n + 1 ∧ dl (At.rbQ s x : Int) ≤ 2600 := by
  have a1 := rd_num x.1
  have m1 := dl_nmul x.1.num.natAbs s
  have m2 := dl_nmul (x.1.num.natAbs * s) (x.1.num.natAbs * s)
  have m3 := dl_nmul (x.1.num.natAbs * s * (x.1.num.natAbs * s)) x.2
  have e : dl ((x.1.num.natAbs : Nat) : Int) = dl x.1.num := by unfold dl; rw [Int.natAbs_natCast]
  have m4 := dl_nrt (x.1.num.natAbs * s * (x.1.num.natAbs * s) * x.2)
  have m5 : dl (At.rbQ s x : Int) ≤ dl ((nrt (x.1.num.natAbs * s * (x.1.num.natAbs * s) * x.2) : Nat) : Int) := dl_natle (Nat.div_le_self _ _)
  have q1 : dl (At.rbQ s x : Int) ≤ 2600 := by omega
  have q2 : dl ((At.rbQ s x : Int) + 1) ≤ 2601 := dl_add (k := 2600) (by omega) (by rw [dl_one]; omega)
  unfold At.rbF
  split
  · exact ⟨dl_add (k := n) p1 (by rw [dl_neg]; omega), dl_add (k := n) p2 (by rw [dl_neg]; omega), q1⟩
  · exact ⟨dl_add (k := n) p1 (by omega), dl_add (k := n) p2 (by omega), q1⟩
theorem rbA_dl {s : Nat} (hs : dl (s : Int) ≤ 1000) : ∀ (k : Nat) {l : List Tm}, l.length = k → (∀ x ∈ l, rd x.1 ≤ 200 ∧ dl (x.2 : Int) ≤ 200) → dl (At.refB l s).1 ≤ 3000 + k ∧ dl (At.refB l s).2 ≤ 3000 + k
  | 0, l, hl, _ => by
    obtain rfl : l = [] := List.length_eq_zero_iff.1 hl
    show dl 0 ≤ _ ∧ dl 0 ≤ _
    rw [dl_zero]; omega
  | k + 1, l, hl, h => by
    obtain ⟨l', x, rfl⟩ : ∃ l' x, l = l' ++ [x] := ⟨l.dropLast, l.getLast (by intro e; rw [e] at hl; simp at hl), (List.dropLast_concat_getLast _).symm⟩
    have ih := rbA_dl hs k (l := l') (by simpa using hl) fun y hy => h y (List.mem_append_left _ hy)
    obtain ⟨h1, h2⟩ := h x (List.mem_append_right _ (List.mem_singleton.2 rfl))
    unfold At.refB at *
    rw [List.foldl_append]
    have := rbF_dl hs h1 h2 (n := 3000 + k) (by omega) ih.1 ih.2
    exact ⟨by show dl (At.rbF s _ x).1 ≤ _; omega, by show dl (At.rbF s _ x).2 ≤ _; omega⟩
theorem refB_snoc {l : List Tm} {k s : Nat} {x : Tm} (h : l[k]? = some x) : At.refB (l.take (k + 1)) s = At.rbF s (At.refB (l.take k) s) x := foldl_take h
set_option maxHeartbeats 8000000 in
theorem Tryz.ybounds (l : List Tm) (hl : l.length ≤ 40) (h : ∀ x ∈ l, rd x.1 ≤ 200 ∧ dl (x.2 : Int) ≤ 200) (y s : Nat) (hy : y ≤ 1000000) (hs : dl (s : Int) ≤ 900) :
    Con Tryz.prog Tryz.L 63 [sg l, .int .i64 y, .str (tz (s : Int))] (.tup [.str (tz (At.refB l (y * s)).1), .str (tz (At.refB l (y * s)).2)]) := by
  have hrl : (tms l).length = l.length * 2 := rows_length tD_len l
  have hyd : dl (y : Int) ≤ 7 := dd_len_le (by decide) (by rw [Int.natAbs_natCast]; omega)
  have hys := dl_nmul y s
  refine rule63 Tryz.hL rfl rfl rfl ?_
  (simp only [pc63, rs63]; refine ev ?_; try with_reducible exact trivial)
  refine loopF_of (fun E => ∃ k : Nat, k ≤ l.length ∧ E = [(0, sg l), (1, .int .i64 y), (2, .str (tz (s : Int))), (6, .str (tz (At.refB (l.take k) (y * s)).1)), (7, .str (tz (At.refB (l.take k) (y * s)).2)), (8, .int .i64 k)])
    (fun E => match lk E 8 with | .int _ i => l.length - i.toNat | _ => 0) ⟨0, Nat.zero_le _, by simp [At.refB, (tz_zero 0).2 rfl]⟩ ?_
  rintro _ ⟨k, hk, rfl⟩
  have hb := rbA_dl (s := y * s) (by omega) k (l := l.take k) (by rw [List.length_take]; omega) fun x hx => h x (List.mem_of_mem_take hx)
  (refine ev ?_; try with_reducible exact trivial)
  refine ⟨fun h3 => ?_, fun h3 => ?_⟩
  · have hx : l[k]? = some (l[k]'(by omega)) := List.getElem?_eq_getElem (by omega)
    generalize l[k]'(by omega) = x at hx
    obtain ⟨x1, x2⟩ := h x (List.mem_of_getElem? hx)
    have hsn := refB_snoc (s := y * s) hx
    have a1 := rd_num x.1; have a2 : dl (x.1.den : Int) ≤ rd x.1 := rd_den x.1
    have l1 := rt_len x.1
    obtain ⟨n0, d0, hp, he⟩ := Tryz.yparts (rt x.1) (by omega)
    obtain ⟨rfl, rfl⟩ := he x.1 rfl
    obtain ⟨b1, b2, b3⟩ := rbF_dl (s := y * s) (n := 3000 + k) (by omega) x1 x2 (by omega) hb.1 hb.2
    have m1 := dl_nmul x.1.num.natAbs (y * s)
    have m2 := dl_nmul (x.1.num.natAbs * (y * s)) (x.1.num.natAbs * (y * s))
    have m3 := dl_nmul (x.1.num.natAbs * (y * s) * (x.1.num.natAbs * (y * s))) x.2
    have e : dl ((x.1.num.natAbs : Nat) : Int) = dl x.1.num := by unfold dl; rw [Int.natAbs_natCast]
    have m4 := dl_nrt (x.1.num.natAbs * (y * s) * (x.1.num.natAbs * (y * s)) * x.2)
    have c1 := Tryz.xmul (y : Int) (s : Int) (by omega) (by omega)
    have c2 := Tryz.xmul ((x.1.num.natAbs : Nat) : Int) ((y * s : Nat) : Int) (by omega) (by omega)
    have c3 := Tryz.xmul ((x.1.num.natAbs * (y * s) : Nat) : Int) ((x.1.num.natAbs * (y * s) : Nat) : Int) (by omega) (by omega)
    have c4 := Tryz.xmul ((x.1.num.natAbs * (y * s) * (x.1.num.natAbs * (y * s)) : Nat) : Int) (x.2 : Int) (by omega) (by omega)
    rw [← Int.natCast_mul] at c1 c2 c3 c4
    have c5 := Tryz.xroot (x.1.num.natAbs * (y * s) * (x.1.num.natAbs * (y * s)) * x.2) (by omega)
    have c6 := Tryz.xdivMod ((nrt (x.1.num.natAbs * (y * s) * (x.1.num.natAbs * (y * s)) * x.2) : Nat) : Int) (x.1.den : Int) (by omega) (by omega) (by have := x.1.den_pos; omega)
    have eq : ((nrt (x.1.num.natAbs * (y * s) * (x.1.num.natAbs * (y * s)) * x.2) : Nat) : Int) / (x.1.den : Int) = (At.rbQ (y * s) x : Int) := rfl
    rw [eq] at c6
    have q2 : dl ((At.rbQ (y * s) x : Int) + 1) ≤ 2601 := dl_add (k := 2600) (by omega) (by rw [dl_one]; omega)
    have c7 := Tryz.xadd (At.rbQ (y * s) x : Int) 1 (by omega) (by rw [dl_one]; omega)
    rw [(tz_one).2 rfl] at c7
    refine ⟨⟨by omega, by omega, by omega⟩, ?_⟩
    rw [tms_at hx]
    simp only [tD, evX, evY, evZ, forall_const, implies_true, initE, stepF, D.clean, mvF, moF, tkF, shF, ariF, ciF, catF, scF, ebF, eqF, eqOk, eqPr, enF, notF, ngF, cvF, csF, csbF, lenF, lenSF, ixF, iaF, PX.slot, iaAF, faF, ldF, D.mem, stF, bxF, mkSF, boundF, fldF, mmF2, D.plain, D.isPure, optAll, D.dull, callVF, splice, D.cells, D.one, sets, resT, D.flat, D.flat0, D.simple, Nat.reduceBNe, Nat.reduceLT, reduceIte, Nat.reduceEqDiff, Nat.reduceAdd, Nat.reduceMul, Nat.reduceSub, Nat.reduceLeDiff, Int.reduceToNat, Int.reduceLT, Int.reduceLE, Int.reduceEq, Int.reduceNeg, Int.reduceSub, Int.reduceAdd, Int.reduceMul, stG_own]
    refine callF_of hp ?_
    (refine ev ?_; try with_reducible exact trivial)
    refine callF_of (Tryz.xabs x.1.num (by omega)) ?_
    (refine ev ?_; try with_reducible exact trivial)
    refine callF_of (Tryz.xof (y : Int) (by rw [inR_i64]; omega)) ?_
    (refine ev ?_; try with_reducible exact trivial)
    refine callF_of c1 ?_
    (refine ev ?_; try with_reducible exact trivial)
    refine callF_of c2 ?_
    (refine ev ?_; try with_reducible exact trivial)
    refine callF_of c3 ?_
    (refine ev ?_; try with_reducible exact trivial)
    refine ⟨⟨by omega, by omega, by omega⟩, ?_⟩
    rw [tms_at hx]
    simp only [tD, evX, evY, evZ, forall_const, implies_true, initE, stepF, D.clean, mvF, moF, tkF, shF, ariF, ciF, catF, scF, ebF, eqF, eqOk, eqPr, enF, notF, ngF, cvF, csF, csbF, lenF, lenSF, ixF, iaF, PX.slot, iaAF, faF, ldF, D.mem, stF, bxF, mkSF, boundF, fldF, mmF2, D.plain, D.isPure, optAll, D.dull, callVF, splice, D.cells, D.one, sets, resT, D.flat, D.flat0, D.simple, Nat.reduceBNe, Nat.reduceLT, reduceIte, Nat.reduceEqDiff, Nat.reduceAdd, Nat.reduceMul, Nat.reduceSub, Nat.reduceLeDiff, Int.reduceToNat, Int.reduceLT, Int.reduceLE, Int.reduceEq, Int.reduceNeg, Int.reduceSub, Int.reduceAdd, Int.reduceMul, stG_own]
    refine callF_of c4 ?_
    (refine ev ?_; try with_reducible exact trivial)
    refine callF_of c5 ?_
    (refine ev ?_; try with_reducible exact trivial)
    refine callF_of c6 ?_
    (refine ev ?_; try with_reducible exact trivial)
    refine callF_of c7 ?_
    (refine ev ?_; try with_reducible exact trivial)
    refine callF_of (Tryz.xsign x.1.num (by omega)) ?_
    (refine ev ?_; try with_reducible exact trivial)
    have hneg : x.1.num.sign < 0 ↔ x.1.num < 0 := ⟨fun h9 => (by rcases Int.sign_trichotomy x.1.num with h | h | h <;> first | exact Int.sign_eq_neg_one_iff_neg.1 h | omega), fun h9 => by rw [Int.sign_eq_neg_one_iff_neg.2 h9]; decide⟩
    have g1 := hb.1
    have g2 := hb.2
    have hlast : At.rbF (y * s) (At.refB (l.take k) (y * s)) x = if x.1.num < 0 then ((At.refB (l.take k) (y * s)).1 + -((At.rbQ (y * s) x : Int) + 1), (At.refB (l.take k) (y * s)).2 + -(At.rbQ (y * s) x : Int)) else ((At.refB (l.take k) (y * s)).1 + (At.rbQ (y * s) x : Int), (At.refB (l.take k) (y * s)).2 + ((At.rbQ (y * s) x : Int) + 1)) := rfl
    refine ⟨fun h9 => ?_, fun h9 => ?_⟩
    · rw [if_pos (hneg.1 h9)] at hlast
      refine callF_of (Tryz.xneg ((At.rbQ (y * s) x : Int) + 1) (by omega)) ?_
      (refine ev ?_; try with_reducible exact trivial)
      refine callF_of (Tryz.xneg (At.rbQ (y * s) x : Int) (by omega)) ?_
      (refine ev ?_; try with_reducible exact trivial)
      refine callF_of (Tryz.xadd (At.refB (l.take k) (y * s)).1 (-((At.rbQ (y * s) x : Int) + 1)) (by omega) (by rw [dl_neg]; omega)) ?_
      (refine ev ?_; try with_reducible exact trivial)
      refine callF_of (Tryz.xadd (At.refB (l.take k) (y * s)).2 (-(At.rbQ (y * s) x : Int)) (by omega) (by rw [dl_neg]; omega)) ?_
      (refine ev ?_; try with_reducible exact trivial)
      refine ⟨⟨by omega, by omega⟩, ⟨k + 1, by omega, ?_⟩, by omega⟩
      rw [hsn, hlast]; simp
    · rw [if_neg (fun hh => h9 (hneg.2 hh))] at hlast
      refine callF_of (Tryz.xadd (At.refB (l.take k) (y * s)).1 (At.rbQ (y * s) x : Int) (by omega) (by omega)) ?_
      (refine ev ?_; try with_reducible exact trivial)
      refine callF_of (Tryz.xadd (At.refB (l.take k) (y * s)).2 ((At.rbQ (y * s) x : Int) + 1) (by omega) (by omega)) ?_
      (refine ev ?_; try with_reducible exact trivial)
      refine ⟨⟨by omega, by omega⟩, ⟨k + 1, by omega, ?_⟩, by omega⟩
      rw [hsn, hlast]; simp
  · have e : k = l.length := by omega
    subst e
    rw [List.take_length]
    simp [resD_two, rvD, lk, D.plain, D.isPure, optAll]

/-- the scales of the reference's Floor -/
def scl (i : Nat) : Nat := 10 ^ (10 * 2 ^ i)
theorem scl_succ (i : Nat) : scl (i + 1) = scl i * scl i := by
  unfold scl; rw [← Nat.pow_add]; congr 1; rw [Nat.pow_succ]; omega
theorem scl_pos (i : Nat) : 0 < scl i := Nat.pow_pos (by decide)
theorem scl_dl {i : Nat} (hi : i ≤ 6) : dl (scl i : Int) ≤ 10 * 2 ^ i + 1 := dd_len_le (by omega) (by
  rw [Int.natAbs_natCast]; unfold scl; exact Nat.pow_lt_pow_right (by decide) (by omega))
theorem ten_tz : tz ((10000000000 : Nat) : Int) = [49, 48, 48, 48, 48, 48, 48, 48, 48, 48, 48] := by
  rw [dd_tz, dd_big (by decide), dd_big (by decide), dd_big (by decide), dd_big (by decide), dd_big (by decide), dd_big (by decide), dd_big (by decide), dd_big (by decide), dd_big (by decide), dd_big (by decide), dd_small (by decide)]; rfl
set_option maxHeartbeats 8000000 in
theorem Tryz.yfloorN (l : List Tm) (hl : l.length ≤ 40) (h : ∀ x ∈ l, rd x.1 ≤ 200 ∧ dl (x.2 : Int) ≤ 200) (hn : l.length = 1 → ∀ x ∈ l, x.2 ≠ 1) (h0 : l ≠ []) (y : Nat) (hy : y ≤ 1000000) (K : Nat) (hK : K ≤ 5)
    (hno : ∀ i, i < K → (At.rfL l y (scl i)).1 ≠ (At.rfL l y (scl i)).2) (hyes : (At.rfL l y (scl K)).1 = (At.rfL l y (scl K)).2) :
    Con Tryz.prog Tryz.L 23 [sg l, .int .i64 y] (.tup [.str (tz (At.rfL l y (scl K)).1), .bool false]) := by
  have hrl : (tms l).length = l.length * 2 := rows_length tD_len l
  have hlen : 0 < l.length := List.length_pos_iff.2 h0
  have hyd : dl (y : Int) ≤ 7 := dd_len_le (by decide) (by rw [Int.natAbs_natCast]; omega)
  refine rule23 Tryz.hL rfl rfl rfl ?_
  (simp only [pc23, rs23]; refine ev ?_; try with_reducible exact trivial)
  refine ⟨fun h3 => ⟨fun h4 => ⟨⟨by omega, by omega⟩, ?_⟩, fun h4 => ?_⟩, fun h3 => absurd h3 (by omega)⟩
  · have hx : l[0]? = some (l[0]'(by omega)) := List.getElem?_eq_getElem (by omega)
    generalize l[0]'(by omega) = x at hx
    have e2 : List.take 2 (tms l) = tD x := by simpa using tms_at hx
    have hx1 := hn (by omega) x (List.mem_of_getElem? hx)
    rw [e2]
    simp only [tD, List.take, List.drop, evX, evY, evZ, forall_const, implies_true, initE, stepF, D.clean, mvF, moF, tkF, shF, ariF, ciF, catF, scF, ebF, eqF, eqOk, eqPr, enF, notF, ngF, cvF, csF, csbF, lenF, lenSF, ixF, iaF, PX.slot, iaAF, faF, ldF, D.mem, stF, bxF, mkSF, boundF, fldF, mmF2, D.plain, D.isPure, optAll, D.dull, callVF, splice, D.cells, D.one, sets, resT, D.flat, D.flat0, D.simple, Nat.reduceBNe, Nat.reduceLT, reduceIte, Nat.reduceEqDiff, Nat.reduceAdd, Nat.reduceMul, Nat.reduceSub, Nat.reduceLeDiff, Int.reduceToNat, Int.reduceLT, Int.reduceLE, Int.reduceEq, Int.reduceNeg, Int.reduceSub, Int.reduceAdd, Int.reduceMul, stG_own]
    rw [tz_one]
    refine ⟨fun h5 => absurd h5 (by omega), fun _ => ?_⟩
    refine loopF_of (fun E => ∃ i : Nat, i ≤ K ∧ E = [(0, sg l), (1, .int .i64 y), (12, .str (tz (scl i : Int))), (13, .int .i64 i)])
      (fun E => match lk E 13 with | .int _ i => 12 - i.toNat | _ => 0) ⟨0, Nat.zero_le _, by rw [show scl 0 = 10000000000 by decide, ten_tz]; rfl⟩ ?_
    rintro _ ⟨i, hi, rfl⟩
    have hsd := scl_dl (i := i) (by omega)
    have h2i : 2 ^ i ≤ 32 := Nat.pow_le_pow_right (n := 2) (by decide) (show i ≤ 5 by omega)
    have hsp := scl_pos i
    have hys := dl_nmul y (scl i)
    have hbd := rbA_dl (s := y * scl i) (by omega) l.length (l := l) rfl h
    have d1 := Tryz.xdivMod (At.refB l (y * scl i)).1 (scl i : Int) (by omega) (by omega) (by omega)
    have d2 := Tryz.xdivMod (At.refB l (y * scl i)).2 (scl i : Int) (by omega) (by omega) (by omega)
    have f1 : (At.refB l (y * scl i)).1 / (scl i : Int) = (At.rfL l y (scl i)).1 := rfl
    have f2 : (At.refB l (y * scl i)).2 / (scl i : Int) = (At.rfL l y (scl i)).2 := rfl
    rw [f1] at d1
    rw [f2] at d2
    (refine ev ?_; try with_reducible exact trivial)
    refine ⟨fun h5 => ?_, fun h5 => absurd (show (i : Int) < 12 by omega) h5⟩
    refine callF_of (Tryz.ybounds l hl h y (scl i) hy (by omega)) ?_
    (refine ev ?_; try with_reducible exact trivial)
    refine callF_of d1 ?_
    (refine ev ?_; try with_reducible exact trivial)
    refine callF_of d2 ?_
    (refine ev ?_; try with_reducible exact trivial)
    rw [tz_eq_iff]
    refine ⟨fun h6 => ?_, fun h6 => ?_⟩
    · have e : i = K := by
        rcases Nat.lt_or_ge i K with h7 | h7
        · exact absurd h6 (hno i h7)
        · omega
      subst e
      simp [resD_two, rvD, lk, D.plain, D.isPure, optAll]
    · have hlt : i < K := by
        rcases Nat.lt_or_ge i K with h7 | h7
        · exact h7
        · exact absurd (by rw [show i = K by omega]; exact hyes) h6
      have hm := Tryz.xmul (scl i : Int) (scl i : Int) (by omega) (by omega)
      rw [← Int.natCast_mul, ← scl_succ] at hm
      refine callF_of hm ?_
      (refine ev ?_; try with_reducible exact trivial)
      exact ⟨⟨by omega, by omega⟩, ⟨i + 1, by omega, by simp⟩, by omega⟩
  · skip
    refine loopF_of (fun E => ∃ i : Nat, i ≤ K ∧ E = [(0, sg l), (1, .int .i64 y), (12, .str (tz (scl i : Int))), (13, .int .i64 i)])
      (fun E => match lk E 13 with | .int _ i => 12 - i.toNat | _ => 0) ⟨0, Nat.zero_le _, by rw [show scl 0 = 10000000000 by decide, ten_tz]; rfl⟩ ?_
    rintro _ ⟨i, hi, rfl⟩
    have hsd := scl_dl (i := i) (by omega)
    have h2i : 2 ^ i ≤ 32 := Nat.pow_le_pow_right (n := 2) (by decide) (show i ≤ 5 by omega)
    have hsp := scl_pos i
    have hys := dl_nmul y (scl i)
    have hbd := rbA_dl (s := y * scl i) (by omega) l.length (l := l) rfl h
    have d1 := Tryz.xdivMod (At.refB l (y * scl i)).1 (scl i : Int) (by omega) (by omega) (by omega)
    have d2 := Tryz.xdivMod (At.refB l (y * scl i)).2 (scl i : Int) (by omega) (by omega) (by omega)
    have f1 : (At.refB l (y * scl i)).1 / (scl i : Int) = (At.rfL l y (scl i)).1 := rfl
    have f2 : (At.refB l (y * scl i)).2 / (scl i : Int) = (At.rfL l y (scl i)).2 := rfl
    rw [f1] at d1
    rw [f2] at d2
    (refine ev ?_; try with_reducible exact trivial)
    refine ⟨fun h5 => ?_, fun h5 => absurd (show (i : Int) < 12 by omega) h5⟩
    refine callF_of (Tryz.ybounds l hl h y (scl i) hy (by omega)) ?_
    (refine ev ?_; try with_reducible exact trivial)
    refine callF_of d1 ?_
    (refine ev ?_; try with_reducible exact trivial)
    refine callF_of d2 ?_
    (refine ev ?_; try with_reducible exact trivial)
    rw [tz_eq_iff]
    refine ⟨fun h6 => ?_, fun h6 => ?_⟩
    · have e : i = K := by
        rcases Nat.lt_or_ge i K with h7 | h7
        · exact absurd h6 (hno i h7)
        · omega
      subst e
      simp [resD_two, rvD, lk, D.plain, D.isPure, optAll]
    · have hlt : i < K := by
        rcases Nat.lt_or_ge i K with h7 | h7
        · exact h7
        · exact absurd (by rw [show i = K by omega]; exact hyes) h6
      have hm := Tryz.xmul (scl i : Int) (scl i : Int) (by omega) (by omega)
      rw [← Int.natCast_mul, ← scl_succ] at hm
      refine callF_of hm ?_
      (refine ev ?_; try with_reducible exact trivial)
      exact ⟨⟨by omega, by omega⟩, ⟨i + 1, by omega, by simp⟩, by omega⟩
end Go.Proofs

/-
  SURD: Floor of a rational number; SurdBounds. Own work.
-/
namespace Go.Proofs
open Go Go.Pi Go.RowKit Go.Ar

theorem exact_iff {A : Int} {T : Nat} (hT : 0 < T) {w : Rat} (h : (A : Rat) = w * (T : Rat)) : A % (T : Int) = 0 ↔ ((A / (T : Int) : Int) : Rat) = w := by
  have hTp := nat_ne hT
  have e := Int.mul_ediv_add_emod A (T : Int)
  have c := congrArg (fun z : Int => (z : Rat)) e
  simp only [Rat.intCast_add, Rat.intCast_mul] at c
  have fT : (((T : Nat) : Int) : Rat) = (T : Rat) := rfl
  rw [fT, h] at c
  constructor
  · intro h0
    rw [h0] at c
    have z0 : ((0 : Int) : Rat) = 0 := rfl
    rw [z0, Rat.add_zero] at c
    generalize ((A / (T : Int) : Int) : Rat) = n at *
    generalize (T : Rat) = t at *
    have : (n - w) * t = 0 := by grind
    have := (rmul_zero this).resolve_right hTp
    grind
  · intro h0
    rw [h0] at c
    have : ((A % (T : Int) : Int) : Rat) = ((0 : Int) : Rat) := by show _ = (0 : Rat); grind
    exact Rat.intCast_inj.1 this
theorem rat_floor (q : Rat) (y : Nat) : q.num * (y : Int) / (q.den : Int) = ((y : Rat) * q).num / (((y : Rat) * q).den : Int) ∧ (q.num * (y : Int) % (q.den : Int) = 0 ↔ ((y : Rat) * q).num % (((y : Rat) * q).den : Int) = 0) := by
  have h1 : ((q.num * (y : Int) : Int) : Rat) = (y : Rat) * q * (q.den : Rat) := by
    rw [Rat.intCast_mul, num_eq q]
    show _ * (y : Rat) = _
    grind
  have h2 := num_eq ((y : Rat) * q)
  have f1 := At.fl_spec (y := 1) q.den_pos h1
  have f2 := At.fl_spec (y := 1) ((y : Rat) * q).den_pos h2
  have o2 : ∀ A : Int, A * (((1 : Nat) : Int)) = A := fun A => Int.mul_one A
  have o1 : (((1 : Nat) : Rat)) = 1 := rfl
  rw [o2, o1, Rat.mul_one] at f1 f2
  have e : q.num * (y : Int) / (q.den : Int) = ((y : Rat) * q).num / (((y : Rat) * q).den : Int) := by
    have a := At.fl_lt f1.1 f2.2 Rat.le_refl
    have b := At.fl_lt f2.1 f1.2 Rat.le_refl
    omega
  refine ⟨e, ?_⟩
  rw [exact_iff q.den_pos h1, exact_iff ((y : Rat) * q).den_pos h2, e]

theorem Tryz.ysum1 (x : Tm) (h : rd x.1 ≤ 200) : Con Tryz.prog Tryz.L 61 [sg [x]] (.str (rt x.1)) := by
  have z0 : rd (0 : Rat) ≤ 1 := by rw [show (0 : Rat) = ((0 : Int) : Rat) from rfl, rd_z, dl_zero]; decide
  have hp := Tryz.yplus 0 x.1 (by omega)
  rw [Rat.zero_add, zero_txt] at hp
  refine rule61 Tryz.hL rfl rfl rfl ?_
  (simp only [pc61, rs61]; refine ev ?_; try with_reducible exact trivial)
  refine loopF_of (fun E => E = [(0, sg [x]), (3, .str [48]), (4, .int .i64 0)] ∨ E = [(0, sg [x]), (3, .str (rt x.1)), (4, .int .i64 1)])
    (fun E => match lk E 4 with | .int _ i => 1 - i.toNat | _ => 0) (.inl rfl) ?_
  rintro _ (rfl | rfl)
  · simp only [tms, rows, tD, List.flatMap_cons, List.flatMap_nil, List.append_nil, List.take, List.drop, List.length_cons, List.length_nil, evX, evY, evZ, forall_const, implies_true, initE, stepF, D.clean, mvF, moF, tkF, shF, ariF, ciF, catF, scF, ebF, eqF, eqOk, eqPr, enF, notF, ngF, cvF, csF, csbF, lenF, lenSF, ixF, iaF, PX.slot, iaAF, faF, ldF, D.mem, stF, bxF, mkSF, boundF, fldF, mmF2, D.plain, D.isPure, optAll, D.dull, callVF, splice, D.cells, D.one, sets, resT, D.flat, D.flat0, D.simple, Nat.reduceBNe, Nat.reduceLT, reduceIte, Nat.reduceEqDiff, Nat.reduceAdd, Nat.reduceMul, Nat.reduceSub, Nat.reduceLeDiff, Int.reduceToNat, Int.reduceLT, Int.reduceLE, Int.reduceEq, Int.reduceNeg, Int.reduceSub, Int.reduceAdd, Int.reduceMul, stG_own]
    refine ⟨fun _ => ⟨by decide, ?_⟩, fun h => absurd (by decide) h⟩
    refine callF_of hp ?_
    simp only [tms, rows, tD, List.flatMap_cons, List.flatMap_nil, List.append_nil, evX, evY, evZ, forall_const, implies_true, initE, stepF, D.clean, mvF, moF, tkF, shF, ariF, ciF, catF, scF, ebF, eqF, eqOk, eqPr, enF, notF, ngF, cvF, csF, csbF, lenF, lenSF, ixF, iaF, PX.slot, iaAF, faF, ldF, D.mem, stF, bxF, mkSF, boundF, fldF, mmF2, D.plain, D.isPure, optAll, D.dull, callVF, splice, D.cells, D.one, sets, resT, D.flat, D.flat0, D.simple, Nat.reduceBNe, Nat.reduceLT, reduceIte, Nat.reduceEqDiff, Nat.reduceAdd, Nat.reduceMul, Nat.reduceSub, Nat.reduceLeDiff, Int.reduceToNat, Int.reduceLT, Int.reduceLE, Int.reduceEq, Int.reduceNeg, Int.reduceSub, Int.reduceAdd, Int.reduceMul, stG_own]
    exact .inr trivial
  · simp only [tms, rows, tD, List.flatMap_cons, List.flatMap_nil, List.append_nil, List.take, List.drop, List.length_cons, List.length_nil, evX, evY, evZ, forall_const, implies_true, initE, stepF, D.clean, mvF, moF, tkF, shF, ariF, ciF, catF, scF, ebF, eqF, eqOk, eqPr, enF, notF, ngF, cvF, csF, csbF, lenF, lenSF, ixF, iaF, PX.slot, iaAF, faF, ldF, D.mem, stF, bxF, mkSF, boundF, fldF, mmF2, D.plain, D.isPure, optAll, D.dull, callVF, splice, D.cells, D.one, sets, resT, D.flat, D.flat0, D.simple, Nat.reduceBNe, Nat.reduceLT, reduceIte, Nat.reduceEqDiff, Nat.reduceAdd, Nat.reduceMul, Nat.reduceSub, Nat.reduceLeDiff, Int.reduceToNat, Int.reduceLT, Int.reduceLE, Int.reduceEq, Int.reduceNeg, Int.reduceSub, Int.reduceAdd, Int.reduceMul, stG_own]
    exact fun h => absurd h (by decide)
theorem Tryz.ysum0 : Con Tryz.prog Tryz.L 61 [sg []] (.str (rt 0)) := by
  rw [zero_txt]
  refine rule61 Tryz.hL rfl rfl rfl ?_
  (simp only [pc61, rs61]; refine ev ?_; try with_reducible exact trivial)
  refine loopF_of (fun E => E = [(0, sg []), (3, .str [48]), (4, .int .i64 0)]) (fun _ => 0) rfl ?_
  rintro _ rfl
  simp only [tms, rows, List.flatMap_nil, List.length_nil, evX, evY, evZ, forall_const, implies_true, initE, stepF, D.clean, mvF, moF, tkF, shF, ariF, ciF, catF, scF, ebF, eqF, eqOk, eqPr, enF, notF, ngF, cvF, csF, csbF, lenF, lenSF, ixF, iaF, PX.slot, iaAF, faF, ldF, D.mem, stF, bxF, mkSF, boundF, fldF, mmF2, D.plain, D.isPure, optAll, D.dull, callVF, splice, D.cells, D.one, sets, resT, D.flat, D.flat0, D.simple, Nat.reduceBNe, Nat.reduceLT, reduceIte, Nat.reduceEqDiff, Nat.reduceAdd, Nat.reduceMul, Nat.reduceSub, Nat.reduceLeDiff, Int.reduceToNat, Int.reduceLT, Int.reduceLE, Int.reduceEq, Int.reduceNeg, Int.reduceSub, Int.reduceAdd, Int.reduceMul, stG_own]
  exact fun h => absurd h (by decide)
theorem Tryz.yfloorR (l : List Tm) (q : Rat) (hq : rd q ≤ 200) (y : Nat) (hy : y ≤ 1000000) (hl : l = [] ∨ ∃ x, l = [x] ∧ x.2 = 1) (hs : Con Tryz.prog Tryz.L 61 [sg l] (.str (rt q))) :
    Con Tryz.prog Tryz.L 23 [sg l, .int .i64 y] (.tup [.str (tz (((y : Rat) * q).num / (((y : Rat) * q).den : Int))), .bool (dB (((y : Rat) * q).num % (((y : Rat) * q).den : Int) = 0))]) := by
  have hyd : dl (y : Int) ≤ 7 := dd_len_le (by decide) (by rw [Int.natAbs_natCast]; omega)
  have hyr : rd (y : Rat) ≤ 7 := by have : (y : Rat) = ((y : Int) : Rat) := rfl
                                    rw [this, rd_z]; exact hyd
  have hyt : tz (y : Int) = rt (y : Rat) := (rt_z (y : Int)).symm
  have hm := rd_mul (y : Rat) q
  have ho := Tryz.xof (y : Int) (by rw [inR_i64]; omega)
  rw [hyt] at ho
  have ht := Tryz.ytimes (y : Rat) q (by omega)
  generalize (y : Rat) * q = w at *
  have a1 := rd_num w; have a2 : dl (w.den : Int) ≤ rd w := rd_den w
  have l1 := rt_len w
  obtain ⟨n0, d0, hp, he⟩ := Tryz.yparts (rt w) (by omega)
  obtain ⟨rfl, rfl⟩ := he w rfl
  have hd := Tryz.xdivMod w.num (w.den : Int) (by omega) (by omega) (by have := w.den_pos; omega)
  refine rule23 Tryz.hL rfl rfl rfl ?_
  (simp only [pc23, rs23]; refine ev ?_; try with_reducible exact trivial)
  rcases hl with rfl | ⟨x, rfl, hx⟩
  · refine ⟨fun h3 => absurd rfl h3, fun h3 => ?_⟩
    refine callF_of ho ?_
    (refine ev ?_; try with_reducible exact trivial)
    refine callF_of hs ?_
    (refine ev ?_; try with_reducible exact trivial)
    refine callF_of ht ?_
    (refine ev ?_; try with_reducible exact trivial)
    refine callF_of hp ?_
    (refine ev ?_; try with_reducible exact trivial)
    refine callF_of hd ?_
    (refine ev ?_; try with_reducible exact trivial)
    rw [tz_zero]
    simp [resD_two, rvD, lk, D.plain, D.isPure, optAll]
  · refine ⟨fun h3 => ⟨fun h4 => ⟨⟨by simp, by simp [rows, tD]⟩, ?_⟩, fun h4 => absurd rfl h4⟩, fun h3 => absurd h3 (by simp)⟩
    simp only [tms, rows, tD, List.flatMap_cons, List.flatMap_nil, List.append_nil, List.take, List.drop, List.length_cons, List.length_nil, evX, evY, evZ, forall_const, implies_true, initE, stepF, D.clean, mvF, moF, tkF, shF, ariF, ciF, catF, scF, ebF, eqF, eqOk, eqPr, enF, notF, ngF, cvF, csF, csbF, lenF, lenSF, ixF, iaF, PX.slot, iaAF, faF, ldF, D.mem, stF, bxF, mkSF, boundF, fldF, mmF2, D.plain, D.isPure, optAll, D.dull, callVF, splice, D.cells, D.one, sets, resT, D.flat, D.flat0, D.simple, Nat.reduceBNe, Nat.reduceLT, reduceIte, Nat.reduceEqDiff, Nat.reduceAdd, Nat.reduceMul, Nat.reduceSub, Nat.reduceLeDiff, Int.reduceToNat, Int.reduceLT, Int.reduceLE, Int.reduceEq, Int.reduceNeg, Int.reduceSub, Int.reduceAdd, Int.reduceMul, stG_own]
    rw [tz_one]
    refine ⟨fun h5 => ?_, fun h5 => absurd (show (x.2 : Int) = 1 by omega) h5⟩
    refine callF_of ho ?_
    (refine ev ?_; try with_reducible exact trivial)
    refine callF_of hs ?_
    (refine ev ?_; try with_reducible exact trivial)
    refine callF_of ht ?_
    (refine ev ?_; try with_reducible exact trivial)
    refine callF_of hp ?_
    (refine ev ?_; try with_reducible exact trivial)
    refine callF_of hd ?_
    (refine ev ?_; try with_reducible exact trivial)
    rw [tz_zero]
    simp [resD_two, rvD, lk, D.plain, D.isPure, optAll]

/-- the least place of agreement -/
theorem least_to {p : Nat → Prop} {M : Nat} (h : p M) : ∃ K, K ≤ M ∧ p K ∧ ∀ j, j < K → ¬p j := by
  obtain ⟨K, h1, h2⟩ := exists_least ⟨M, h⟩
  exact ⟨K, h2 M h, h1, fun j hj hp => by have := h2 j hp; omega⟩

set_option maxHeartbeats 4000000 in
theorem Tryz.surdBounds (l : List Pa) (hl : l.length ≤ 1048576) (h : ∀ p ∈ l, okP p) (den : Int) : Con Tryz.prog Tryz.L 5 [.sl l.length (pas l), .int .i64 den] (.bool true) := by
  have hmk := makeL_mk l
  have hok := hmk.ok (by decide)
  have hm := Tryz.make l hl h
  have hlen := hmk.len
  have hrd : ∀ x ∈ makeL l, rd x.1 ≤ 200 ∧ dl (x.2 : Int) ≤ 200 := fun x hx => ⟨(hok.ok x hx).2.1, (hok.ok x hx).2.2.2.1⟩
  generalize makeL l = m at *
  have hpl := Tryz.plain m (by omega)
  -- Rational's answer, whatever the list
  obtain ⟨xs, is, hrat⟩ : ∃ xs is, Con Tryz.prog Tryz.L 21 [sg m] (.tup [.str xs, .bool is, .int .i64 0]) := by
    match m, hok with
    | [], _ => exact ⟨_, _, Tryz.rational0⟩
    | [x], hok =>
      by_cases h1 : x.2 = 1
      · exact ⟨_, _, Tryz.rational1 x hok h1⟩
      · exact ⟨_, _, Tryz.rationalN [x] hok (fun _ y hy => by rw [List.mem_singleton.1 hy]; exact h1) (by simp)⟩
    | x :: y :: r, hok => exact ⟨_, _, Tryz.rationalN (x :: y :: r) hok (fun h => absurd h (by simp)) (by simp)⟩
  by_cases hd : den < 1 ∨ 1000000 < den
  · refine rule5 Tryz.hL rfl rfl rfl ?_
    (simp only [pc5, rs5]; refine ev ?_; try with_reducible exact trivial)
    refine callF_of Tryz.known ?_
    (refine ev ?_; try with_reducible exact trivial)
    refine ⟨fun h3 => ?_, fun h3 => ?_⟩
    · refine callF_of Tryz.known ?_
      (refine ev ?_; try with_reducible exact trivial)
    · refine callF_of hm ?_
      (refine ev ?_; try with_reducible exact trivial)
      refine callF_of (Tryz.bounds_bad m xs is den hd hrat) ?_
      (refine ev ?_; try with_reducible exact trivial)
      exact fun h4 => (fun h5 => absurd hd (by omega))
  · obtain ⟨y, rfl⟩ : ∃ y : Nat, den = (y : Int) := ⟨den.toNat, by omega⟩
    have hy1 : 1 ≤ y := by omega
    have hy2 : y ≤ 1000000 := by omega
    have hyd : dl (y : Int) ≤ 7 := dd_len_le (by decide) (by rw [Int.natAbs_natCast]; omega)
    -- both floors
    obtain ⟨n, ex, hb, hf, hn⟩ : ∃ (n : Int) (ex : Bool), Con Tryz.prog Tryz.L 22 [sg m, .int .i64 y] (.tup [.str (rt (mkRat n y)), .str (rt (mkRat (if ex then n else n + 1) y)), .int .i64 0]) ∧
        Con Tryz.prog Tryz.L 23 [sg m, .int .i64 y] (.tup [.str (tz n), .bool ex]) ∧ dl n ≤ 150 := by
      have rat : ∀ q : Rat, rd q ≤ 100 → Con Tryz.prog Tryz.L 21 [sg m] (.tup [.str (rt q), .bool true, .int .i64 0]) → Con Tryz.prog Tryz.L 61 [sg m] (.str (rt q)) → (m = [] ∨ ∃ x, m = [x] ∧ x.2 = 1) →
          ∃ (n : Int) (ex : Bool), Con Tryz.prog Tryz.L 22 [sg m, .int .i64 y] (.tup [.str (rt (mkRat n y)), .str (rt (mkRat (if ex then n else n + 1) y)), .int .i64 0]) ∧
          Con Tryz.prog Tryz.L 23 [sg m, .int .i64 y] (.tup [.str (tz n), .bool ex]) ∧ dl n ≤ 150 := fun q hq hr hs hl => by
        obtain ⟨e1, e2⟩ := rat_floor q y
        have f1 := Tryz.floorR m q (by omega) y (by omega)
        have f2 := Tryz.yfloorR m q (by omega) y hy2 hl hs
        rw [← e1, ← show (q.num * (y : Int) % (q.den : Int) = 0) = _ from propext e2] at f2
        have hnd : dl (q.num * (y : Int) / (q.den : Int)) ≤ 150 := by
          have h1 := dl_mul q.num y
          have h2 := rd_num q
          have h3 := dl_mono (x := q.num * (y : Int) / (q.den : Int)) (y := q.num * (y : Int)) (Int.natAbs_ediv_le_natAbs _ _)
          omega
        exact ⟨_, _, Tryz.bounds_gen m _ _ _ y hy1 hy2 _ hnd hr f1, f2, hnd⟩
      have irr : (m.length = 1 → ∀ x ∈ m, x.2 ≠ 1) → m ≠ [] → (¬∀ x ∈ m, x.2 = 1) →
          ∃ (n : Int) (ex : Bool), Con Tryz.prog Tryz.L 22 [sg m, .int .i64 y] (.tup [.str (rt (mkRat n y)), .str (rt (mkRat (if ex then n else n + 1) y)), .int .i64 0]) ∧
          Con Tryz.prog Tryz.L 23 [sg m, .int .i64 y] (.tup [.str (tz n), .bool ex]) ∧ dl n ≤ 150 := fun hn h0 hnr => by
        obtain ⟨K, k1, k2, k3⟩ := least_to (p := fun K => (flL m y (16 * 2 ^ K)).1 = (flL m y (16 * 2 ^ K)).2) (M := 6) (At.prog_same hmk hnr (by decide) hy1 hy2)
        obtain ⟨I, i1, i2, i3⟩ := least_to (p := fun i => (At.rfL m y (scl i)).1 = (At.rfL m y (scl i)).2) (M := 5) (At.ref_same hmk hnr (by unfold scl; decide +kernel) hy1 hy2)
        have hme := At.floors_meet hmk hy1 (scl_pos I) k2 i2
        have hb : 16 * 2 ^ K ≤ 4096 := by
          have : 2 ^ K ≤ 2 ^ 6 := Nat.pow_le_pow_right (by decide) k1
          omega
        have f1 := Tryz.floorN m (by omega) hrd y (by omega) K hb k3 k2 []
        have f2 := Tryz.yfloorN m (by omega) hrd hn h0 y hy2 I i1 i3 i2
        rw [hme] at f2
        have hnd : dl (flL m y (16 * 2 ^ K)).1 ≤ 150 := by
          have := At.fl_size hmk (bits := 16 * 2 ^ K) hy2
          exact Nat.le_trans (dd_len_le (k := 13) (by decide) (by omega)) (by decide)
        exact ⟨_, false, Tryz.bounds_gen m _ _ _ y hy1 hy2 _ hnd (Tryz.rationalN m hok hn h0) f1, f2, hnd⟩
      clear hm hpl hrat
      match m, hok, hmk, rat, irr with
      | [], _, _, rat, _ =>
        have r0 := Tryz.rational0
        rw [← zero_txt] at r0
        exact rat 0 (by rw [show (0 : Rat) = ((0 : Int) : Rat) from rfl, rd_z, dl_zero]; decide) r0 Tryz.ysum0 (.inl rfl)
      | [x], hok, hmk, rat, irr =>
        by_cases h1 : x.2 = 1
        · have hx := hmk.rd (by decide) (List.mem_singleton.2 rfl : x ∈ [x])
          exact rat x.1 (by omega) (Tryz.rational1 x hok h1) (Tryz.ysum1 x (by omega)) (.inr ⟨x, rfl, h1⟩)
        · exact irr (fun _ z hz => by rw [List.mem_singleton.1 hz]; exact h1) (by simp) (fun hh => h1 (hh x (List.mem_singleton.2 rfl)))
      | x :: z :: r, hok, hmk, _, irr =>
        refine irr (fun h => absurd h (by simp)) (by simp) (fun hh => ?_)
        have := (List.pairwise_cons.1 hmk.can.cls).1 z (List.mem_cons_self ..)
        rw [hh x (by simp), hh z (by simp)] at this
        exact this rfl
    refine rule5 Tryz.hL rfl rfl rfl ?_
    (simp only [pc5, rs5]; refine ev ?_; try with_reducible exact trivial)
    refine callF_of Tryz.known ?_
    (refine ev ?_; try with_reducible exact trivial)
    refine ⟨fun h3 => ?_, fun h3 => ?_⟩
    · refine callF_of Tryz.known ?_
      (refine ev ?_; try with_reducible exact trivial)
    · refine callF_of hm ?_
      (refine ev ?_; try with_reducible exact trivial)
      refine callF_of hb ?_
      (refine ev ?_; try with_reducible exact trivial)
      refine ⟨fun h4 => ⟨fun h5 => absurd h5 (by omega), fun _ => ?_⟩, fun h4 => absurd h4 (by omega)⟩
      have ho := Tryz.xof (y : Int) (by rw [inR_i64]; omega)
      have mk1 := Tryz.ymake n y (by omega) (by omega) (by omega)
      have n1 : dl (n + 1) ≤ 151 := dl_add (k := 150) hn (by rw [dl_one]; omega)
      have mk2 := Tryz.ymake (n + 1) y (by omega) (by omega) (by omega)
      have ad := Tryz.xadd n 1 (by omega) (by rw [dl_one]; omega)
      rw [(tz_one).2 rfl] at ad
      refine callF_of hpl ?_
      (refine ev ?_; try with_reducible exact trivial)
      refine callF_of hf ?_
      (refine ev ?_; try with_reducible exact trivial)
      refine callF_of ad ?_
      cases ex with
      | true =>
        (refine ev ?_; try with_reducible exact trivial)
        refine callF_of ho ?_
        (refine ev ?_; try with_reducible exact trivial)
        refine callF_of mk1 ?_
        (refine ev ?_; try with_reducible exact trivial)
        refine callF_of ho ?_
        (refine ev ?_; try with_reducible exact trivial)
        refine callF_of mk1 ?_
        (refine ev ?_; try with_reducible exact trivial)
      | false =>
        (refine ev ?_; try with_reducible exact trivial)
        refine callF_of ho ?_
        (refine ev ?_; try with_reducible exact trivial)
        refine callF_of mk1 ?_
        (refine ev ?_; try with_reducible exact trivial)
        refine callF_of ho ?_
        (refine ev ?_; try with_reducible exact trivial)
        refine callF_of mk2 ?_
        (refine ev ?_; try with_reducible exact trivial)
end Go.Proofs
