/-
  SURD: whole roots as approximations; a list of terms is not small. Own work.
-/
import Derived.Test.YtpddmheiacgejaaGreatDoorSg
import Derived.Test.YtpddmheiacgejaaGreatDoorPj
namespace Go.Ar.At
open Go.Ar Go.Proofs

/-- the root of r at the scale N -/
def qr (N r : Nat) : Rat := (nrt (r * (N * N)) : Rat) / N
theorem qr_spec {N : Nat} (hN : 0 < N) (r : Nat) {k : Nat} (hk : r ≤ k * k) : (0 ≤ qr N r ∧ qr N r ≤ k) ∧ Sm N (2 * k) (qr N r * qr N r - r) := by
  obtain ⟨h1, h2⟩ := nrt_spec (r * (N * N))
  have hA : nrt (r * (N * N)) ≤ k * N := by
    refine Nat.not_lt.1 fun hlt => ?_
    have h3 := Nat.mul_lt_mul_of_lt_of_lt hlt hlt
    have h4 := Nat.mul_le_mul_right (N * N) hk
    have e : k * N * (k * N) = k * k * (N * N) := by grind
    omega
  have hNp := nat_ne hN
  have hN0 : (0 : Rat) < N := Rat.natCast_pos.2 hN
  have c1 := nat_nonneg (nrt (r * (N * N)))
  have c2 : ((nrt (r * (N * N)) : Nat) : Rat) ≤ (k : Rat) * N := by rw [← cast_mul]; exact Rat.natCast_le_natCast.2 hA
  have c3 : ((nrt (r * (N * N)) : Nat) : Rat) * (nrt (r * (N * N)) : Nat) ≤ (r : Rat) * ((N : Rat) * N) := by rw [← cast_mul, ← cast_mul, ← cast_mul]; exact Rat.natCast_le_natCast.2 h1
  have c4 : (r : Rat) * ((N : Rat) * N) ≤ ((nrt (r * (N * N)) : Nat) : Rat) * (nrt (r * (N * N)) : Nat) + 2 * (nrt (r * (N * N)) : Nat) := by
    have h3 : r * (N * N) ≤ nrt (r * (N * N)) * nrt (r * (N * N)) + 2 * nrt (r * (N * N)) := by
      have e : (nrt (r * (N * N)) + 1) * (nrt (r * (N * N)) + 1) = nrt (r * (N * N)) * nrt (r * (N * N)) + 2 * nrt (r * (N * N)) + 1 := by grind
      omega
    have := Rat.natCast_le_natCast.2 h3
    rw [cast_mul, cast_mul, cast_add, cast_mul, cast_mul] at this
    exact this
  unfold qr Sm
  rw [cast_mul]
  generalize ((nrt (r * (N * N)) : Nat) : Rat) = A at *
  have hq : ∀ q : Rat, A = q * N → (0 ≤ q ∧ q ≤ k) ∧ (q * q - r) * N ≤ ((2 : Nat) : Rat) * k ∧ -(((2 : Nat) : Rat) * k) ≤ (q * q - r) * N := by
    intro q e
    have f2 : ((2 : Nat) : Rat) = 2 := rfl
    rw [f2]
    generalize (N : Rat) = n at *
    generalize (k : Rat) = k at *
    generalize (r : Rat) = r at *
    rw [e] at c1 c2 c3 c4
    have q0 : 0 ≤ q := Rat.not_lt.1 fun h => by
      have := Rat.mul_pos (show 0 < -q by grind) hN0
      grind
    have q1 : q ≤ k := Rat.not_lt.1 fun h => by
      have := Rat.mul_pos (show 0 < q - k by grind) hN0
      grind
    refine ⟨⟨q0, q1⟩, ?_, ?_⟩
    · have d1 : (q * q - r) * n ≤ 0 := Rat.not_lt.1 fun h => by
        have := Rat.mul_pos h hN0
        grind
      grind
    · have d1 : -(2 * q) ≤ (q * q - r) * n := Rat.not_lt.1 fun h => by
        have := Rat.mul_pos (show 0 < -(2 * q) - (q * q - r) * n by grind) hN0
        grind
      grind
  exact hq _ (by have key : ∀ A n : Rat, n ≠ 0 → A = A / n * n := fun A n h => by grind
                 exact key A N hNp)
theorem qr_ge {N : Nat} (hN : 0 < N) {r : Nat} (hr : 0 < r) : 1 ≤ qr N r := by
  have hA : N ≤ nrt (r * (N * N)) := by
    obtain ⟨_, h2⟩ := nrt_spec (r * (N * N))
    refine Nat.not_lt.1 fun hlt => ?_
    have h3 : nrt (r * (N * N)) + 1 ≤ N := hlt
    have h4 := Nat.mul_le_mul h3 h3
    have h5 := Nat.mul_le_mul_right (N * N) hr
    omega
  have hNp := nat_ne hN
  have hN0 : (0 : Rat) < N := Rat.natCast_pos.2 hN
  have c2 := Rat.natCast_le_natCast.2 hA
  unfold qr
  generalize ((nrt (r * (N * N)) : Nat) : Rat) = A at *
  generalize (N : Rat) = n at *
  refine Rat.not_lt.1 fun h => ?_
  have := Rat.mul_pos (show 0 < 1 - A / n by grind) hN0
  have e : A / n * n = A := by grind
  grind
theorem ap_qr {N : Nat} (hN : 0 < N) : Ap N (qr N 2) (qr N 3) (qr N 5) (qr N 1009) where
  ba := ⟨(qr_spec hN 2 (k := 2) (by decide)).1.2, by have := (qr_spec hN 2 (k := 2) (by decide)).1.1; have e : ((2 : Nat) : Rat) = 2 := rfl; grind⟩
  bb := ⟨(qr_spec hN 3 (k := 2) (by decide)).1.2, by have := (qr_spec hN 3 (k := 2) (by decide)).1.1; have e : ((2 : Nat) : Rat) = 2 := rfl; grind⟩
  bc := ⟨(qr_spec hN 5 (k := 3) (by decide)).1.2, by have := (qr_spec hN 5 (k := 3) (by decide)).1.1; have e : ((3 : Nat) : Rat) = 3 := rfl; grind⟩
  bd := ⟨(qr_spec hN 1009 (k := 32) (by decide)).1.2, by have := (qr_spec hN 1009 (k := 32) (by decide)).1.1; have e : ((32 : Nat) : Rat) = 32 := rfl; grind⟩
  sa := (qr_spec hN 2 (k := 2) (by decide)).2
  sb := (qr_spec hN 3 (k := 2) (by decide)).2
  sc := (qr_spec hN 5 (k := 3) (by decide)).2
  sd := (qr_spec hN 1009 (k := 32) (by decide)).2
/-- two approximations of a root -/
theorem sm_root {N C E : Nat} {x q r : Rat} (h1 : Sm N C (x * x - r)) (h2 : Sm N E (q * q - r)) (hx : 0 ≤ x) (hq : 1 ≤ q) : Sm N (C + E) (x - q) := by
  have h := h1.sub h2
  have hN := nat_nonneg N
  have e : x * x - r - (q * q - r) = (x - q) * (x + q) := by grind
  rw [e] at h
  unfold Sm at *
  generalize ((C + E : Nat) : Rat) = B at *
  generalize (N : Rat) = n at *
  by_cases hc : q ≤ x
  · have p := Rat.mul_nonneg (Rat.mul_nonneg (show 0 ≤ x - q by grind) hN) (show 0 ≤ x + q - 1 by grind)
    have p2 := Rat.mul_nonneg (show 0 ≤ x - q by grind) hN
    constructor <;> grind
  · have p := Rat.mul_nonneg (Rat.mul_nonneg (show 0 ≤ q - x by grind) hN) (show 0 ≤ x + q - 1 by grind)
    have p2 := Rat.mul_nonneg (show 0 ≤ q - x by grind) hN
    constructor <;> grind
/-- the root of a base as a product -/
def mono (N : Nat) : Nat → Rat
  | 2 => qr N 2
  | 3 => qr N 3
  | 6 => qr N 2 * qr N 3
  | 10 => qr N 2 * qr N 5
  | 30 => qr N 2 * qr N 3 * qr N 5
  | 1009 => qr N 1009
  | _ => 1
theorem mono_spec {N : Nat} (hN : 0 < N) {r : Nat} (hr : r ∈ R10) : 0 ≤ mono N (bs r).1 ∧ Sm N 300 (mono N (bs r).1 * mono N (bs r).1 - ((bs r).1 : Nat)) := by
  have A := ap_qr hN
  have a0 := (qr_spec hN 2 (k := 2) (by decide)).1.1
  have b0 := (qr_spec hN 3 (k := 2) (by decide)).1.1
  have c0 := (qr_spec hN 5 (k := 3) (by decide)).1.1
  have d0 := (qr_spec hN 1009 (k := 32) (by decide)).1.1
  have s6 := (A.sa.mul (A.bb.mul A.bb)).add (A.sb.mul (Bd.nat 2))
  have s10 := (A.sa.mul (A.bc.mul A.bc)).add (A.sc.mul (Bd.nat 2))
  have s30 := (s6.mul (A.bc.mul A.bc)).add (A.sc.mul (Bd.nat 6))
  have f2 : ((2 : Nat) : Rat) = 2 := rfl
  have f3 : ((3 : Nat) : Rat) = 3 := rfl
  have f6 : ((6 : Nat) : Rat) = 6 := rfl
  have f10 : ((10 : Nat) : Rat) = 10 := rfl
  have f30 : ((30 : Nat) : Rat) = 30 := rfl
  have f9 : ((1009 : Nat) : Rat) = 1009 := rfl
  have f1 : ((1 : Nat) : Rat) = 1 := rfl
  have m2 : 0 ≤ mono N 2 ∧ Sm N 300 (mono N 2 * mono N 2 - (2 : Nat)) := ⟨a0, A.sa.le (by decide)⟩
  have m3 : 0 ≤ mono N 3 ∧ Sm N 300 (mono N 3 * mono N 3 - (3 : Nat)) := ⟨b0, A.sb.le (by decide)⟩
  have m1 : 0 ≤ mono N 1 ∧ Sm N 300 (mono N 1 * mono N 1 - (1 : Nat)) := ⟨by show (0 : Rat) ≤ 1; decide, by
    have e : mono N 1 * mono N 1 - ((1 : Nat) : Rat) = 0 := by show (1 : Rat) * 1 - ((1 : Nat) : Rat) = 0; rw [f1]; grind
    rw [e]; unfold Sm; rw [Rat.zero_mul]; exact ⟨nat_nonneg 300, by have := nat_nonneg 300; grind⟩⟩
  have m6 : 0 ≤ mono N 6 ∧ Sm N 300 (mono N 6 * mono N 6 - (6 : Nat)) := ⟨Rat.mul_nonneg a0 b0, (s6.congr (y := _) (by show qr N 2 * qr N 3 * (qr N 2 * qr N 3) - (6 : Nat) = _; rw [f6, f2]; grind)).le (by decide)⟩
  have m10 : 0 ≤ mono N 10 ∧ Sm N 300 (mono N 10 * mono N 10 - (10 : Nat)) := ⟨Rat.mul_nonneg a0 c0, (s10.congr (y := _) (by show qr N 2 * qr N 5 * (qr N 2 * qr N 5) - (10 : Nat) = _; rw [f10, f2]; grind)).le (by decide)⟩
  have m30 : 0 ≤ mono N 30 ∧ Sm N 300 (mono N 30 * mono N 30 - (30 : Nat)) := ⟨Rat.mul_nonneg (Rat.mul_nonneg a0 b0) c0, (s30.congr (y := _) (by show qr N 2 * qr N 3 * qr N 5 * (qr N 2 * qr N 3 * qr N 5) - (30 : Nat) = _; rw [f30, f2, f6]; grind)).le (by decide)⟩
  have m9 : 0 ≤ mono N 1009 ∧ Sm N 300 (mono N 1009 * mono N 1009 - (1009 : Nat)) := ⟨d0, A.sd.le (by decide)⟩
  simp only [List.mem_cons, List.not_mem_nil, or_false] at hr
  rcases hr with rfl | rfl | rfl | rfl | rfl | rfl | rfl | rfl | rfl | rfl
  · exact m1
  · exact m2
  · exact m3
  · exact m2
  · exact m6
  · exact m3
  · exact m10
  · exact m2
  · exact m30
  · exact m9
theorem r_le {r : Nat} (hr : r ∈ R10) : r ≤ 32 * 32 := by have := (r10_form r hr).2.2.2.2.1; omega
theorem qr_mono {N : Nat} (hN : 0 < N) {r : Nat} (hr : r ∈ R10) : Sm N 7600 (((bs r).2 : Rat) * mono N (bs r).1 - qr N r) := by
  obtain ⟨h0, h1⟩ := mono_spec hN hr
  obtain ⟨e, p1, p2, p3, _, _⟩ := r10_form r hr
  have hq := qr_spec hN r (r_le hr)
  have hg := qr_ge hN (r := r) (by rw [e]; exact Nat.mul_pos (Nat.mul_pos p1 p2) p2)
  have hs : Bd 25 (((bs r).2 : Rat) * ((bs r).2 : Rat)) := ((Bd.nat _).mul (Bd.nat _)).le (by have := Nat.mul_le_mul p3 p3; omega)
  have h2 := h1.mul hs
  have er : ((r : Nat) : Rat) = ((bs r).1 : Rat) * (bs r).2 * (bs r).2 := (congrArg (fun x : Nat => (x : Rat)) e).trans (by rw [cast_mul, cast_mul])
  refine (sm_root (x := ((bs r).2 : Rat) * mono N (bs r).1) (h2.congr (by rw [er]; grind)) hq.2 (Rat.mul_nonneg (nat_nonneg _) h0) hg).le (by decide)

/-- a sum of terms at a scale, and by its classes -/
def sumQ (N : Nat) : List Tm → Rat
  | [] => 0
  | x :: l => x.1 * qr N x.2 + sumQ N l
def cmb (N : Nat) (c1 c2 c3 c6 c10 c30 c9 : Rat) : Rat := kv (qr N 2) (qr N 3) c1 c2 c3 c6 + kv (qr N 2) (qr N 3) 0 c10 0 c30 * qr N 5 + c9 * qr N 1009
def cmbL (N : Nat) (l : List Tm) : Rat := cmb N (vlB 1 l) (vlB 2 l) (vlB 3 l) (vlB 6 l) (vlB 10 l) (vlB 30 l) (vlB 1009 l)
theorem cmbL_cons {N : Nat} {x : Tm} {l : List Tm} (hr : x.2 ∈ R10) : cmbL N (x :: l) = x.1 * (((bs x.2).2 : Rat) * mono N (bs x.2).1) + cmbL N l := by
  obtain ⟨f, r⟩ := x
  simp only [List.mem_cons, List.not_mem_nil, or_false] at hr
  rcases hr with rfl | rfl | rfl | rfl | rfl | rfl | rfl | rfl | rfl | rfl <;> simp [cmbL, cmb, vlB, bs, mono, kv] <;> grind
theorem cmbL_sum {N : Nat} (hN : 0 < N) {m : Nat} : ∀ {l : List Tm}, (∀ x ∈ l, x.2 ∈ R10 ∧ Bd m x.1) → Sm N (7600 * m * l.length) (cmbL N l - sumQ N l)
  | [], _ => by
    have e : cmbL N [] - sumQ N [] = 0 := by simp [cmbL, cmb, vlB, kv, sumQ]; grind
    rw [e]; unfold Sm; rw [Rat.zero_mul]
    exact ⟨nat_nonneg _, by have := nat_nonneg (7600 * m * ([] : List Tm).length); grind⟩
  | x :: l, h => by
    obtain ⟨h1, h2⟩ := h x (List.mem_cons_self ..)
    have ih := cmbL_sum hN (l := l) (m := m) fun y hy => h y (List.mem_cons_of_mem _ hy)
    have h3 := ((qr_mono hN h1).mul h2).add ih
    refine (h3.congr (y := _) (by rw [cmbL_cons h1]; show _ - (x.1 * qr N x.2 + sumQ N l) = _; grind)).le ?_
    rw [List.length_cons, Nat.mul_succ]; omega
set_option maxRecDepth 100000 in
theorem indep {N : Nat} (hN : 2 ^ 1024 ≤ N) {c1 c2 c3 c6 c10 c30 c9 : Rat} (h : Sm N 1000000000000000 (cmb N c1 c2 c3 c6 c10 c30 c9))
    (b : ∀ c ∈ [c1, c2, c3, c6, c10, c30, c9], Bd 1000000000000000 c ∧ Dn 12 c) : ∀ c ∈ [c1, c2, c3, c6, c10, c30, c9], c = 0 := by
  have hp : 0 < N := Nat.lt_of_lt_of_le (Nat.pow_pos (by decide)) hN
  have k : Co 1000000000000000 12 c1 c2 c3 c6 := ⟨(b c1 (by simp)).1, (b c2 (by simp)).1, (b c3 (by simp)).1, (b c6 (by simp)).1, (b c1 (by simp)).2, (b c2 (by simp)).2, (b c3 (by simp)).2, (b c6 (by simp)).2⟩
  have b0 : Bd 1000000000000000 0 := ⟨nat_nonneg _, by have := nat_nonneg 10000000000000; grind⟩
  have d0 : Dn 12 0 := ⟨0, by rw [Rat.zero_mul]; rfl⟩
  have l : Co 1000000000000000 12 0 c10 0 c30 := ⟨b0, (b c10 (by simp)).1, b0, (b c30 (by simp)).1, d0, (b c10 (by simp)).2, d0, (b c30 (by simp)).2⟩
  obtain ⟨⟨e1, e2, e3, e4⟩, ⟨_, e5, _, e6⟩, e7⟩ := (ap_qr hp).four h k l (b c9 (by simp)).1 (b c9 (by simp)).2 (by decide)
    (Nat.lt_of_lt_of_le (by decide +kernel) hN) (Nat.lt_of_lt_of_le (by decide +kernel) hN)
  intro c hc
  simp only [List.mem_cons, List.not_mem_nil, or_false] at hc
  rcases hc with rfl | rfl | rfl | rfl | rfl | rfl | rfl <;> assumption
end Go.Ar.At

/-
  SURD: enclosures of a sum of roots: those of the program and those of the reference meet. Own work.
-/
namespace Go.Ar.At
open Go.Ar Go.Proofs

theorem sq_le {p q : Rat} (hq : 0 ≤ q) (h : p * p ≤ q * q) : p ≤ q := Rat.not_lt.1 fun h2 => by
  have h3 := Rat.mul_pos (show 0 < p - q by grind) (show 0 < p + q by grind)
  grind
/-- bounds of one term -/
def TEnc (x : Tm) (t u : Rat) : Prop := ∃ p q : Rat, 0 ≤ p ∧ 0 ≤ q ∧ p * p ≤ (x.2 : Rat) ∧ (x.2 : Rat) ≤ q * q ∧ ((0 ≤ x.1 ∧ t = x.1 * p ∧ u = x.1 * q) ∨ (x.1 < 0 ∧ t = x.1 * q ∧ u = x.1 * p))
theorem TEnc.cross {x : Tm} {t u t' u' : Rat} (h : TEnc x t u) (h' : TEnc x t' u') : t ≤ u' := by
  obtain ⟨p, q, hp, hq, h1, h2, h3⟩ := h
  obtain ⟨p', q', hp', hq', h1', h2', h3'⟩ := h'
  have a1 := sq_le hq' (show p * p ≤ q' * q' by grind)
  have a2 := sq_le hq (show p' * p' ≤ q * q by grind)
  rcases h3 with ⟨s, rfl, rfl⟩ | ⟨s, rfl, rfl⟩
  · rcases h3' with ⟨s', rfl, rfl⟩ | ⟨s', rfl, rfl⟩
    · have := Rat.mul_nonneg s (show 0 ≤ q' - p by grind); grind
    · grind
  · rcases h3' with ⟨s', rfl, rfl⟩ | ⟨s', rfl, rfl⟩
    · grind
    · have := Rat.mul_nonneg (show 0 ≤ -x.1 by grind) (show 0 ≤ q - p' by grind); grind
/-- bounds of a sum -/
def Enc : List Tm → Rat → Rat → Prop
  | [], lo, hi => lo = 0 ∧ hi = 0
  | x :: l, lo, hi => ∃ t u lo' hi', TEnc x t u ∧ Enc l lo' hi' ∧ lo = t + lo' ∧ hi = u + hi'
theorem Enc.cross : ∀ {l : List Tm} {a b c d : Rat}, Enc l a b → Enc l c d → a ≤ d
  | [], a, b, c, d, h, h' => by rw [h.1, h'.2]; exact Rat.le_refl
  | x :: l, a, b, c, d, ⟨t, u, lo, hi, h1, h2, e1, _⟩, ⟨t', u', lo', hi', h1', h2', _, e2'⟩ => by
    have := h1.cross h1'
    have := Enc.cross h2 h2'
    rw [e1, e2']; grind

/-- the program's bounds -/
theorem den_dvd_F {d : Nat} {x : Tm} (h : 0 < d) : d ∣ denF d x ∧ x.1.den ∣ denF d x := by
  unfold denF
  refine ⟨⟨_, rfl⟩, ?_⟩
  have hg := Nat.gcd_dvd_left d x.1.den
  have hg2 := Nat.gcd_dvd_right d x.1.den
  have hg0 := Nat.gcd_pos_of_pos_left x.1.den h
  obtain ⟨a, ha⟩ := hg
  obtain ⟨b, hb⟩ := hg2
  generalize Nat.gcd d x.1.den = g at *
  rw [hb, Nat.mul_div_cancel_left b hg0, ha]
  exact ⟨a, by grind⟩
theorem den_dvd_L : ∀ {l : List Tm} {d : Nat}, 0 < d → d ∣ l.foldl denF d ∧ ∀ x ∈ l, x.1.den ∣ l.foldl denF d
  | [], d, _ => ⟨Nat.dvd_refl _, fun x hx => (by cases hx)⟩
  | x :: l, d, h => by
    obtain ⟨h1, h2⟩ := den_dvd_L (l := l) (denF_pos (x := x) h)
    obtain ⟨h3, h4⟩ := den_dvd_F (x := x) h
    refine ⟨Nat.dvd_trans h3 h1, fun y hy => ?_⟩
    rcases List.mem_cons.1 hy with rfl | hy
    · exact Nat.dvd_trans h4 h1
    · exact h2 y hy
theorem den_dvd {l : List Tm} {x : Tm} (hx : x ∈ l) : x.1.den ∣ denL l := (den_dvd_L (l := l) (d := 1) (by decide)).2 x hx
theorem kf {x : Rat} {d : Nat} (h : x.den ∣ d) : ((((d / x.den : Nat) : Int) * x.num : Int) : Rat) = (d : Rat) * x := by
  obtain ⟨k, rfl⟩ := h
  rw [Nat.mul_div_cancel_left k x.den_pos, Rat.intCast_mul, num_eq x]
  show (k : Rat) * _ = _
  rw [cast_mul]; grind
theorem kf_neg {x : Rat} {d : Nat} (h : x.den ∣ d) (hd : 0 < d) : ((d / x.den : Nat) : Int) * x.num < 0 ↔ x < 0 := by
  have e := kf h
  have h1 : ((((d / x.den : Nat) : Int) * x.num : Int) : Rat) < ((0 : Int) : Rat) ↔ ((d / x.den : Nat) : Int) * x.num < 0 := Rat.intCast_lt_intCast
  rw [← h1, e]
  have hdp : (0 : Rat) < d := Rat.natCast_pos.2 hd
  constructor
  · intro h2
    refine Rat.not_le.1 fun h3 => ?_
    have := Rat.mul_nonneg (show (0 : Rat) ≤ d by grind) h3
    have h4 : (d : Rat) * x < 0 := h2
    grind
  · intro h2
    have := Rat.mul_pos hdp (show 0 < -x by grind)
    show (d : Rat) * x < 0
    grind
/-- one term at a scale -/
theorem tenc_prog {N : Nat} (hN : 0 < N) (x : Tm) : ∃ t u : Rat, TEnc x t u ∧ (if x.1 < 0 then t = x.1 * ((upR (x.2 * (N * N)) : Nat) / (N : Rat)) ∧ u = x.1 * qr N x.2 else t = x.1 * qr N x.2 ∧ u = x.1 * ((upR (x.2 * (N * N)) : Nat) / (N : Rat))) := by
  obtain ⟨h1, h2⟩ := nrt_spec (x.2 * (N * N))
  have hNp := nat_ne hN
  have hN0 : (0 : Rat) < N := Rat.natCast_pos.2 hN
  have key : ∀ A n : Rat, n ≠ 0 → A / n * n = A := fun A n h => by grind
  have eq1 : qr N x.2 * N = ((nrt (x.2 * (N * N)) : Nat) : Rat) := key _ _ hNp
  have eq2 : ((upR (x.2 * (N * N)) : Nat) : Rat) / N * N = ((upR (x.2 * (N * N)) : Nat) : Rat) := key _ _ hNp
  have hp : 0 ≤ qr N x.2 := Rat.not_lt.1 fun h => by
    have h3 := Rat.mul_pos (show 0 < -qr N x.2 by grind) hN0
    have h4 := nat_nonneg (nrt (x.2 * (N * N)))
    rw [← eq1] at h4
    grind
  have hu : x.2 * (N * N) ≤ upR (x.2 * (N * N)) * upR (x.2 * (N * N)) := by
    unfold upR
    split
    · rename_i hq; unfold isq at hq; omega
    · omega
  have c1 : ((nrt (x.2 * (N * N)) : Nat) : Rat) * (nrt (x.2 * (N * N)) : Nat) ≤ (x.2 : Rat) * ((N : Rat) * N) := by rw [← cast_mul, ← cast_mul, ← cast_mul]; exact Rat.natCast_le_natCast.2 h1
  have c2 : (x.2 : Rat) * ((N : Rat) * N) ≤ ((upR (x.2 * (N * N)) : Nat) : Rat) * (upR (x.2 * (N * N)) : Nat) := by rw [← cast_mul, ← cast_mul, ← cast_mul]; exact Rat.natCast_le_natCast.2 hu
  have hq : 0 ≤ ((upR (x.2 * (N * N)) : Nat) : Rat) / N := Rat.not_lt.1 fun h => by
    have h3 := Rat.mul_pos (show 0 < -(((upR (x.2 * (N * N)) : Nat) : Rat) / N) by grind) hN0
    have h4 := nat_nonneg (upR (x.2 * (N * N)))
    rw [← eq2] at h4
    grind
  generalize qr N x.2 = p at *
  generalize ((upR (x.2 * (N * N)) : Nat) : Rat) / N = q at *
  rw [← eq1] at c1
  rw [← eq2] at c2
  have d1 : p * p ≤ (x.2 : Rat) := Rat.not_lt.1 fun h => by
    have := Rat.mul_pos (Rat.mul_pos (show 0 < p * p - (x.2 : Rat) by grind) hN0) hN0
    grind
  have d2 : (x.2 : Rat) ≤ q * q := Rat.not_lt.1 fun h => by
    have := Rat.mul_pos (Rat.mul_pos (show 0 < (x.2 : Rat) - q * q by grind) hN0) hN0
    grind
  by_cases hneg : x.1 < 0
  · exact ⟨_, _, ⟨p, q, hp, hq, d1, d2, .inr ⟨hneg, rfl, rfl⟩⟩, by rw [if_pos hneg]; exact ⟨rfl, rfl⟩⟩
  · exact ⟨_, _, ⟨p, q, hp, hq, d1, d2, .inl ⟨by grind, rfl, rfl⟩⟩, by rw [if_neg hneg]; exact ⟨rfl, rfl⟩⟩

/-- the program's bounds of a sum: they enclose it, and they are narrow -/
theorem enc_fold {N D : Nat} (hN : 0 < N) (hD : 0 < D) {m : Nat} : ∀ {l : List Tm} {p : Int × Int}, (∀ x ∈ l, x.1.den ∣ D ∧ Bd m x.1) →
    ∃ lo hi : Rat, Enc l lo hi ∧ ((l.foldl (encF D (N * N)) p).1 : Rat) = p.1 + lo * (D * N) ∧ ((l.foldl (encF D (N * N)) p).2 : Rat) = p.2 + hi * (D * N) ∧ lo ≤ sumQ N l ∧ sumQ N l ≤ hi ∧ (hi - lo) * N ≤ ((m * l.length : Nat) : Rat)
  | [], p, _ => ⟨0, 0, ⟨rfl, rfl⟩, by rw [Rat.zero_mul, Rat.add_zero]; rfl, by rw [Rat.zero_mul, Rat.add_zero]; rfl, Rat.le_refl, Rat.le_refl, by
      have e : ((0 : Rat) - 0) * N = 0 := by grind
      rw [e]; exact nat_nonneg _⟩
  | x :: l, p, h => by
    obtain ⟨hd, hm⟩ := h x (List.mem_cons_self ..)
    obtain ⟨lo, hi, h1, h2, h3, h4, h5, h6⟩ := enc_fold hN hD (l := l) (p := encF D (N * N) p x) (m := m) fun y hy => h y (List.mem_cons_of_mem _ hy)
    obtain ⟨t, u, k1, k2⟩ := tenc_prog hN x
    have e := kf hd
    have eneg := kf_neg hd hD
    have hNp := nat_ne hN
    have hN0 : (0 : Rat) < N := Rat.natCast_pos.2 hN
    have key : ∀ A n : Rat, n ≠ 0 → A / n * n = A := fun A n h => by grind
    have eq1 : qr N x.2 * N = ((nrt (x.2 * (N * N)) : Nat) : Rat) := key _ _ hNp
    have eq2 : ((upR (x.2 * (N * N)) : Nat) : Rat) / N * N = ((upR (x.2 * (N * N)) : Nat) : Rat) := key _ _ hNp
    have up1 : nrt (x.2 * (N * N)) ≤ upR (x.2 * (N * N)) ∧ upR (x.2 * (N * N)) ≤ nrt (x.2 * (N * N)) + 1 := by unfold upR; split <;> omega
    have up2 : ((nrt (x.2 * (N * N)) : Nat) : Rat) ≤ ((upR (x.2 * (N * N)) : Nat) : Rat) := Rat.natCast_le_natCast.2 up1.1
    have up3 : ((upR (x.2 * (N * N)) : Nat) : Rat) ≤ ((nrt (x.2 * (N * N)) : Nat) : Rat) + 1 := by
      have := Rat.natCast_le_natCast.2 up1.2
      rw [cast_add] at this; exact this
    have el : ((m * (l.length + 1) : Nat) : Rat) = ((m * l.length : Nat) : Rat) + m := by rw [Nat.mul_succ, cast_add]
    refine ⟨t + lo, u + hi, ⟨t, u, lo, hi, k1, h1, rfl, rfl⟩, ?_⟩
    show ((l.foldl (encF D (N * N)) (encF D (N * N) p x)).1 : Rat) = _ ∧ ((l.foldl (encF D (N * N)) (encF D (N * N) p x)).2 : Rat) = _ ∧ _ ≤ x.1 * qr N x.2 + sumQ N l ∧ x.1 * qr N x.2 + sumQ N l ≤ _ ∧ _ ≤ ((m * (l.length + 1) : Nat) : Rat)
    rw [h2, h3, el]
    unfold encF
    generalize hK : ((D / x.1.den : Nat) : Int) * x.1.num = K at *
    generalize ((m * l.length : Nat) : Rat) = ml at *
    have hm1 := hm.1
    have hm2 := hm.2
    by_cases hneg : x.1 < 0
    · rw [if_pos (eneg.2 hneg)]
      rw [if_pos hneg] at k2
      obtain ⟨rfl, rfl⟩ := k2
      simp only [Rat.intCast_add, Rat.intCast_mul, e]
      have c1 : (((upR (x.2 * (N * N)) : Nat) : Int) : Rat) = ((upR (x.2 * (N * N)) : Nat) : Rat) := rfl
      have c2 : (((nrt (x.2 * (N * N)) : Nat) : Int) : Rat) = ((nrt (x.2 * (N * N)) : Nat) : Rat) := rfl
      rw [c1, c2]
      clear c1 c2 hK h1 k1 hm h2 h3 eneg hd e up1 el
      generalize ((upR (x.2 * (N * N)) : Nat) : Rat) / N = q at *
      generalize qr N x.2 = r at *
      generalize ((upR (x.2 * (N * N)) : Nat) : Rat) = U at *
      generalize ((nrt (x.2 * (N * N)) : Nat) : Rat) = A at *
      subst eq1 eq2
      have g1 : r ≤ q := Rat.not_lt.1 fun h => by
        have := Rat.mul_pos (show 0 < r - q by grind) hN0
        grind
      have g2 := Rat.mul_nonneg (show 0 ≤ -x.1 by grind) (show 0 ≤ q - r by grind)
      have g3 := Rat.mul_nonneg (show 0 ≤ -x.1 by grind) (show 0 ≤ r * N + 1 - q * N by grind)
      refine ⟨by grind, by grind, by grind, by grind, by grind⟩
    · rw [if_neg (fun hh => hneg (eneg.1 hh))]
      rw [if_neg hneg] at k2
      obtain ⟨rfl, rfl⟩ := k2
      simp only [Rat.intCast_add, Rat.intCast_mul, e]
      have c1 : (((upR (x.2 * (N * N)) : Nat) : Int) : Rat) = ((upR (x.2 * (N * N)) : Nat) : Rat) := rfl
      have c2 : (((nrt (x.2 * (N * N)) : Nat) : Int) : Rat) = ((nrt (x.2 * (N * N)) : Nat) : Rat) := rfl
      rw [c1, c2]
      clear c1 c2 hK h1 k1 hm h2 h3 eneg hd e up1 el
      generalize ((upR (x.2 * (N * N)) : Nat) : Rat) / N = q at *
      generalize qr N x.2 = r at *
      generalize ((upR (x.2 * (N * N)) : Nat) : Rat) = U at *
      generalize ((nrt (x.2 * (N * N)) : Nat) : Rat) = A at *
      subst eq1 eq2
      have g1 : r ≤ q := Rat.not_lt.1 fun h => by
        have := Rat.mul_pos (show 0 < r - q by grind) hN0
        grind
      have g2 := Rat.mul_nonneg (show 0 ≤ x.1 by grind) (show 0 ≤ q - r by grind)
      have g3 := Rat.mul_nonneg (show 0 ≤ x.1 by grind) (show 0 ≤ r * N + 1 - q * N by grind)
      refine ⟨by grind, by grind, by grind, by grind, by grind⟩
end Go.Ar.At

/-
  SURD: two small lemmas. Own work.
-/
namespace Go.Ar.At
open Go.Ar Go.Proofs
theorem nat1 {n : Nat} (h : 0 < n) : (0 : Rat) < (n : Rat) := Rat.natCast_pos.2 h
end Go.Ar.At
namespace Go.Proofs
open Go Go.Pi Go.RowKit Go.Ar
/-- the least place of agreement -/
theorem least_to {p : Nat → Prop} {M : Nat} (h : p M) : ∃ K, K ≤ M ∧ p K ∧ ∀ j, j < K → ¬p j := by
  obtain ⟨K, h1, h2⟩ := exists_least ⟨M, h⟩
  exact ⟨K, h2 M h, h1, fun j hj hp => by have := h2 j hp; omega⟩

end Go.Proofs

/-
  SURD: the reference's enclosures. Own work.
-/
namespace Go.Ar.At
open Go.Ar Go.Proofs

/-- the part of a term in the reference's bounds -/
def rbQ (s : Nat) (x : Tm) : Nat := nrt (x.1.num.natAbs * s * (x.1.num.natAbs * s) * x.2) / x.1.den
def rbF (s : Nat) (p : Int × Int) (x : Tm) : Int × Int := if x.1.num < 0 then (p.1 + -((rbQ s x : Int) + 1), p.2 + -(rbQ s x : Int)) else (p.1 + (rbQ s x : Int), p.2 + ((rbQ s x : Int) + 1))
def refB (l : List Tm) (s : Nat) : Int × Int := l.foldl (rbF s) (0, 0)
end Go.Ar.At

/-
  SURD: an enclosure that is narrow holds no whole number: then both whole parts agree. Own work.
-/
namespace Go.Ar.At
open Go.Ar Go.Proofs

theorem bd_of_val {M : Int} {v : Rat} {s : Nat} {B : Nat} (h : v * 12 = (M : Rat)) (hM : M.natAbs ≤ 12 * B) : Bd B v ∧ Dn 12 v := by
  have h1 : (M : Rat) ≤ ((12 * B : Nat) : Rat) := Rat.intCast_le_intCast.2 (show M ≤ ((12 * B : Nat) : Int) by omega)
  have h2 : -((12 * B : Nat) : Rat) ≤ (M : Rat) := by
    have := Rat.intCast_le_intCast.2 (show -((12 * B : Nat) : Int) ≤ M by omega)
    rw [Rat.intCast_neg] at this; exact this
  rw [cast_mul] at h1 h2
  have f : ((12 : Nat) : Rat) = 12 := rfl
  rw [f] at h1 h2
  refine ⟨⟨?_, ?_⟩, M, h⟩ <;> grind
theorem div_le {a s : Rat} {B : Nat} (hs : 1 ≤ s) (h : Bd B (a * s)) : Bd B a := by
  have hB := nat_nonneg B
  obtain ⟨h1, h2⟩ := h
  constructor
  · refine Rat.not_lt.1 fun hh => ?_
    have := Rat.mul_nonneg (show 0 ≤ a by grind) (show 0 ≤ s - 1 by grind)
    grind
  · refine Rat.not_lt.1 fun hh => ?_
    have := Rat.mul_nonneg (show 0 ≤ -a by grind) (show 0 ≤ s - 1 by grind)
    grind
end Go.Ar.At

/-
  SURD: whole parts of the program and of the reference. Own work.
-/
namespace Go.Ar.At
open Go.Ar Go.Proofs

theorem pow2_le {k m : Nat} (h : k ≤ m) : 2 ^ k ≤ 2 ^ m := Nat.pow_le_pow_right (by decide) h
/-- the reference's whole parts, at the scale s -/
def rfL (l : List Tm) (y s : Nat) : Int × Int := ((refB l (y * s)).1 / (s : Int), (refB l (y * s)).2 / (s : Int))
end Go.Ar.At

/-
  SURD: Bounds, floor and the reference's bounds and Floor as contracts. Own work.
-/
namespace Go.Proofs
open Go Go.Pi Go.RowKit Go.Ar

/-- the scales of the reference's Floor -/
def scl (i : Nat) : Nat := 10 ^ (10 * 2 ^ i)
end Go.Proofs
