/-
 DECIMAL TEXTS in plain Lean: what digits write, and how the library reads them. Own work.
-/
import Derived.Lib.ItoaNum
import Derived.Lib.ParseIntB
import Derived.Lib.Bytealg
import Derived.Test.YtokpkgcjjbdinaaGreatDoorEa
set_option linter.unusedVariables false
set_option linter.unusedSimpArgs false
namespace Go.Ar
open Go.Lib

/-- the digits of a number -/
abbrev dd (n : Nat) : List UInt8 := decDigits n
/-- the digits of an integer -/
abbrev tz (z : Int) : List UInt8 := itoa z
def isDec (l : List UInt8) : Prop := ∀ c ∈ l, 48 ≤ c.toNat ∧ c.toNat ≤ 57
/-- what digits write -/
def dstep (a : Nat) (c : UInt8) : Nat := a * 10 + (c.toNat - 48)
def dva (acc : Nat) (l : List UInt8) : Nat := l.foldl dstep acc
theorem dva_nil (acc : Nat) : dva acc [] = acc := by unfold dva; simp only [List.foldl_nil]
theorem dva_cons (acc : Nat) (c : UInt8) (r : List UInt8) : dva acc (c :: r) = dva (acc * 10 + (c.toNat - 48)) r := by unfold dva; simp only [List.foldl_cons]; unfold dstep; exact Eq.refl _
theorem dva_append (l m : List UInt8) (acc : Nat) : dva acc (l ++ m) = dva (dva acc l) m := by
 induction l generalizing acc with
 | nil => simp only [List.nil_append, dva_nil, dva_cons]
 | cons c l ih => simp only [List.cons_append, dva_nil, dva_cons]; exact ih _
theorem dva_lin : ∀ (l : List UInt8) (acc : Nat), dva acc l = acc * 10 ^ l.length + dva 0 l
 | [], acc => by simp [dva_nil, dva_cons]
 | c :: l, acc => by
   simp only [dva_nil, dva_cons, List.length_cons]
   rw [dva_lin l, dva_lin l (0 * 10 + _), Nat.pow_succ, Nat.zero_mul, Nat.zero_add, Nat.add_mul, Nat.mul_assoc, Nat.mul_comm 10]
   omega
theorem dva_ge (l : List UInt8) (acc : Nat) : acc ≤ dva acc l := by
 rw [dva_lin]
 have : acc * 1 ≤ acc * 10 ^ l.length := Nat.mul_le_mul_left _ (Nat.one_le_pow _ _ (by decide))
 omega
theorem isDec_append {l m : List UInt8} : isDec (l ++ m) ↔ isDec l ∧ isDec m := by
 simp only [isDec, List.mem_append]
 exact ⟨fun h => ⟨fun c hc => h c (.inl hc), fun c hc => h c (.inr hc)⟩, fun h c hc => hc.elim (h.1 c) (h.2 c)⟩
theorem isDec_one {c : UInt8} (h : 48 ≤ c.toNat ∧ c.toNat ≤ 57) : isDec [c] := fun d hd => by rw [List.mem_singleton.1 hd]; exact h
theorem isDec_take {l : List UInt8} (h : isDec l) (n : Nat) : isDec (l.take n) := fun c hc => h c (List.mem_of_mem_take hc)
theorem isDec_drop {l : List UInt8} (h : isDec l) (n : Nat) : isDec (l.drop n) := fun c hc => h c (List.mem_of_mem_drop hc)
theorem dva_lt : ∀ {l : List UInt8}, isDec l → dva 0 l < 10 ^ l.length
 | [], _ => by simp [dva_nil, dva_cons]
 | c :: l, h => by
   have hc := h c (List.mem_cons_self ..)
   have ih := dva_lt (l := l) fun d hd => h d (List.mem_cons_of_mem _ hd)
   simp only [dva_nil, dva_cons, List.length_cons]
   rw [dva_lin, Nat.pow_succ, Nat.zero_mul, Nat.zero_add]
   have : (c.toNat - 48) * 10 ^ l.length ≤ 9 * 10 ^ l.length := Nat.mul_le_mul_right _ (by omega)
   omega
theorem ofNat_toNat {c : UInt8} : UInt8.ofNat c.toNat = c := by simp
theorem dig_toNat {d : Nat} (h : d < 10) : (UInt8.ofNat (48 + d)).toNat = 48 + d := by
 rw [UInt8.toNat_ofNat']; omega

theorem dd_small {u : Nat} (h : u < 10) : dd u = [UInt8.ofNat (48 + u)] := by unfold dd; rw [decDigits, dif_pos h]
theorem dd_big {u : Nat} (h : ¬u < 10) : dd u = dd (u / 10) ++ [UInt8.ofNat (48 + u % 10)] := by unfold dd; rw [decDigits, dif_neg h]
theorem dd_isDec (n : Nat) : isDec (dd n) := by
 induction n using Nat.strongRecOn with
 | _ n ih =>
   by_cases h : n < 10
   ·rw [dd_small h]; exact isDec_one (by rw [dig_toNat h]; omega)
   ·rw [dd_big h, isDec_append]
    exact ⟨ih _ (by omega), isDec_one (by rw [dig_toNat (Nat.mod_lt _ (by decide))]; omega)⟩
theorem dd_dva (n : Nat) : dva 0 (dd n) = n := by
 induction n using Nat.strongRecOn with
 | _ n ih =>
   by_cases h : n < 10
   ·rw [dd_small h]; simp only [dva_nil, dva_cons, dig_toNat h]; omega
   ·rw [dd_big h, dva_append, ih _ (by omega)]
    simp only [dva_nil, dva_cons, dig_toNat (Nat.mod_lt n (show 0 < 10 by decide))]; omega
theorem dd_inj {m n : Nat} (h : dd m = dd n) : m = n := by rw [← dd_dva m, h, dd_dva]
theorem dd_len_pos (n : Nat) : 0 < (dd n).length := by rw [decDigits_length]; exact nDigits_pos n
theorem dd_ne (n : Nat) : dd n ≠ [] := fun h => by have := dd_len_pos n; rw [h] at this; simp at this
theorem dd_zero : dd 0 = [48] := by rw [dd_small (by decide)]; rfl
theorem dd_lt (n : Nat) : n < 10 ^ (dd n).length := by rw [decDigits_length]; exact lt_pow_nDigits n
theorem dd_len_le {k : Nat} : ∀ {n : Nat}, 0 < k → n < 10 ^ k → (dd n).length ≤ k := by
 induction k with
 | zero => intro n h; omega
 | succ k ih =>
   intro n _ h
   by_cases h1 : n < 10
   ·rw [dd_small h1]; simp
   ·rw [dd_big h1, List.length_append, List.length_singleton]
    rw [Nat.pow_succ] at h
    have hk : 0 < k := by
     rcases Nat.eq_zero_or_pos k with h0 | h0
     ·subst h0; simp at h; omega
     ·exact h0
    have := ih (n := n / 10) hk (by omega)
    omega
theorem dd_ge {n : Nat} (h : 0 < n) : 10 ^ ((dd n).length - 1) ≤ n := by
 rcases Nat.lt_or_ge n (10 ^ ((dd n).length - 1)) with h1 | h1
 ·rcases Nat.eq_zero_or_pos ((dd n).length - 1) with h0 | h0
  ·rw [h0] at h1; simp at h1; omega
  ·have := dd_len_le h0 h1; omega
 ·exact h1
theorem dd_len_mono {m n : Nat} (h : m ≤ n) : (dd m).length ≤ (dd n).length := dd_len_le (dd_len_pos n) (Nat.lt_of_le_of_lt h (dd_lt n))
theorem dd_len_lt {m n : Nat} (h : (dd m).length < (dd n).length) : m < n := by
 rcases Nat.lt_or_ge m n with h1 | h1
 ·exact h1
 ·have := dd_len_mono h1; omega

/-- digits without a zero ahead are those of their number -/
theorem dd_canon : ∀ (k : Nat) (l : List UInt8), l.length = k → isDec l → l ≠ [] → (∀ r, l = 48 :: r → r = []) → dd (dva 0 l) = l := by
 intro k
 induction k with
 | zero => intro l h _ h2; exact absurd (List.eq_nil_of_length_eq_zero h) h2
 | succ k ih =>
   intro l hl hd hne hz
   have e := List.dropLast_concat_getLast hne
   generalize l.dropLast = r at e
   generalize l.getLast hne = c at e
   subst e
   have hlr : r.length = k := by simpa using hl
   obtain ⟨hr, hc⟩ := isDec_append.1 hd
   have hc := hc c (by simp)
   rw [dva_append]
   simp only [dva_nil, dva_cons]
   have ec : UInt8.ofNat (48 + (c.toNat - 48)) = c := by rw [show 48 + (c.toNat - 48) = c.toNat by omega, ofNat_toNat]
   by_cases hr0 : r = []
   ·subst hr0
    simp only [dva_nil, dva_cons, Nat.zero_mul, Nat.zero_add, List.nil_append]
    rw [dd_small (by omega), ec]
   ·have hz2 : ∀ s, r = 48 :: s → s = [] := fun s hs => by
     subst hs
     have := hz (s ++ [c]) rfl
     simp at this
    have h1 := ih r hlr hr hr0 hz2
    have h2 : 0 < dva 0 r := by
     rcases Nat.eq_zero_or_pos (dva 0 r) with h0 | h0
     ·rw [h0, dd_zero] at h1
      subst h1
      have := hz [c] rfl
      cases this
     ·exact h0
    rw [dd_big (by omega), show (dva 0 r * 10 + (c.toNat - 48)) / 10 = dva 0 r by omega, show (dva 0 r * 10 + (c.toNat - 48)) % 10 = c.toNat - 48 by omega, h1, ec]
theorem dd_head {n : Nat} {r : List UInt8} (h : dd n = 48 :: r) : r = [] ∧ n = 0 := by
 have h0 : n = 0 := by
  rcases Nat.eq_zero_or_pos n with h0 | h0
  ·exact h0
  ·have h1 := dd_ge h0
   have h2 := dd_dva n
   have h3 := dva_lt (l := r) fun c hc => dd_isDec n c (by rw [h]; exact List.mem_cons_of_mem _ hc)
   rw [h] at h1 h2
   simp only [dva_nil, dva_cons] at h2
   have : (48 : UInt8).toNat - 48 = 0 := rfl
   rw [this, Nat.zero_mul, Nat.add_zero] at h2
   rw [h2] at h3
   simp only [List.length_cons, Nat.add_sub_cancel] at h1
   omega
 subst h0
 rw [dd_zero] at h
 cases h
 exact ⟨rfl, rfl⟩

def padz (k : Nat) (l : List UInt8) : List UInt8 := List.replicate (k - l.length) 48 ++ l
theorem dec_pad {h : Nat} (hh : 0 < h) : ∀ {k lo : Nat}, lo < 10 ^ (k + 1) → dd (h * 10 ^ (k + 1) + lo) = dd h ++ padz (k + 1) (dd lo)
 | 0, lo, hl => by
   rw [Nat.zero_add, Nat.pow_one] at hl ⊢
   rw [dd_big (by omega), show (h * 10 + lo) / 10 = h by omega, show (h * 10 + lo) % 10 = lo by omega, padz, dd_small hl]; rfl
 | k + 1, lo, hl => by
   have hp : 1 ≤ 10 ^ (k + 1) := Nat.one_le_pow _ _ (by decide)
   rw [Nat.pow_succ] at hl ⊢
   have hge : 1 * 10 ^ (k + 1) ≤ h * 10 ^ (k + 1) := Nat.mul_le_mul_right _ hh
   rw [← Nat.mul_assoc]
   rw [dd_big (by omega), show (h * 10 ^ (k + 1) * 10 + lo) / 10 = h * 10 ^ (k + 1) + lo / 10 by omega, show (h * 10 ^ (k + 1) * 10 + lo) % 10 = lo % 10 by omega, dec_pad hh (by omega), List.append_assoc]
   congr 1
   unfold padz
   by_cases h1 : lo < 10
   ·rw [show lo / 10 = 0 by omega, dd_zero, dd_small h1, show lo % 10 = lo by omega]
    simp only [List.length_singleton, Nat.add_sub_cancel]
    rw [List.replicate_succ', List.append_assoc]
   ·rw [dd_big h1, List.length_append, List.length_singleton, Nat.add_sub_add_right, List.append_assoc]

/-! ### reading -/
theorem uintM_ok {M : Nat} (hM : M < 18446744073709551616) : ∀ (l : List UInt8) (acc : Nat), isDec l → dva acc l ≤ M → parseUintM M acc l = .ok (dva acc l)
 | [], acc, _, _ => rfl
 | c :: r, acc, hd, hv => by
   have hc := hd c (List.mem_cons_self ..)
   simp only [dva_nil, dva_cons] at hv
   have h1 := dva_ge r (acc * 10 + (c.toNat - 48))
   simp only [parseUintM, dva_nil, dva_cons]
   rw [if_pos hc, if_neg (by omega), if_neg (by omega)]
   exact uintM_ok hM r _ (fun d hd' => hd d (List.mem_cons_of_mem _ hd')) hv
theorem uint10_ok : ∀ (l : List UInt8) (acc : Nat), isDec l → dva acc l < 18446744073709551616 → parseUint10 acc l = .ok (dva acc l)
 | [], acc, _, _ => rfl
 | c :: r, acc, hd, hv => by
   have hc := hd c (List.mem_cons_self ..)
   simp only [dva_nil, dva_cons] at hv
   have h1 := dva_ge r (acc * 10 + (c.toNat - 48))
   simp only [parseUint10, dva_nil, dva_cons]
   rw [if_pos hc, if_neg (by omega), if_neg (by omega)]
   exact uint10_ok r _ (fun d hd' => hd d (List.mem_cons_of_mem _ hd')) hv
theorem uintB_ok {l : List UInt8} (hne : l ≠ []) (hd : isDec l) (hv : dva 0 l < 18446744073709551616) : parseUintB 64 l = .ok (dva 0 l) := by
 unfold parseUintB
 rw [if_neg hne, uintM_ok (by decide) l 0 hd (by omega)]
theorem atoi_tz {z : Int} (h0 : -9223372036854775808 ≤ z) (h1 : z ≤ 9223372036854775807) : atoiAll (tz z) = .ok z := by
 unfold tz itoa
 split
 ·rename_i h
  have hm : parseMag (dd z.natAbs) = .ok z.natAbs := by
   unfold parseMag
   rw [if_neg (dd_ne _), uint10_ok _ _ (dd_isDec _) (by rw [dd_dva]; omega), dd_dva]
  unfold atoiAll
  simp only []
  rw [if_pos (.inr rfl), hm]
  simp only []
  have e : (45 : UInt8).toNat = 45 := rfl
  rw [if_neg (by simp [e]), if_neg (by omega), if_pos e]
  congr 1; omega
 ·rename_i h
  have hm : parseMag (dd z.toNat) = .ok z.toNat := by
   unfold parseMag
   rw [if_neg (dd_ne _), uint10_ok _ _ (dd_isDec _) (by rw [dd_dva]; omega), dd_dva]
  unfold atoiAll
  have hd := dd_isDec z.toNat
  split
  ·rename_i h2; exact absurd h2 (dd_ne _)
  ·rename_i c r h2
   have hc := hd c (by unfold dd; rw [h2]; exact List.mem_cons_self ..)
   rw [if_neg (by omega), hm]
   simp only []
   rw [if_neg (by omega), if_neg (by omega), if_neg (by omega)]
   congr 1; omega

def cmpN' (m n : Nat) : Int := if m < n then -1 else if n < m then 1 else 0
theorem cmpB_dec : ∀ {l m : List UInt8}, isDec l → isDec m → l.length = m.length → compareBytes l m = cmpN' (dva 0 l) (dva 0 m)
 | [], [], _, _, _ => rfl
 | [], _ :: _, _, _, h => by simp at h
 | _ :: _, [], _, _, h => by simp at h
 | c :: l, d :: m, hl, hm, hlen => by
   simp only [List.length_cons, Nat.add_right_cancel_iff] at hlen
   have hc := hl c (List.mem_cons_self ..)
   have hd := hm d (List.mem_cons_self ..)
   have hl2 : isDec l := fun x hx => hl x (List.mem_cons_of_mem _ hx)
   have hm2 : isDec m := fun x hx => hm x (List.mem_cons_of_mem _ hx)
   have h1 := dva_lt hl2
   have h2 := dva_lt hm2
   have ih := cmpB_dec hl2 hm2 hlen
   simp only [compareBytes, dva_nil, dva_cons]
   rw [dva_lin l, dva_lin m, hlen]
   rw [hlen] at h1
   simp only [Nat.zero_mul, Nat.zero_add]
   rw [ih]
   have step : ∀ x y : Nat, x < y → x * 10 ^ m.length + dva 0 l < y * 10 ^ m.length + dva 0 m := fun x y h => by
    have := Nat.mul_le_mul_right (10 ^ m.length) (show x + 1 ≤ y from h)
    rw [Nat.add_mul] at this; omega
   have step2 : ∀ x y : Nat, y < x → y * 10 ^ m.length + dva 0 m < x * 10 ^ m.length + dva 0 l := fun x y h => by
    have := Nat.mul_le_mul_right (10 ^ m.length) (show y + 1 ≤ x from h)
    rw [Nat.add_mul] at this; omega
   have clt : (c < d) ↔ c.toNat < d.toNat := UInt8.lt_iff_toNat_lt
   have dlt : (d < c) ↔ d.toNat < c.toNat := UInt8.lt_iff_toNat_lt
   unfold cmpN'
   by_cases h3 : c.toNat < d.toNat
   ·rw [if_pos (clt.2 h3), if_pos (step _ _ (by omega))]
   ·by_cases h4 : d.toNat < c.toNat
    ·rw [if_neg (fun h => h3 (clt.1 h)), if_pos (dlt.2 h4), if_neg (Nat.not_lt.2 (Nat.le_of_lt (step2 _ _ (by omega)))), if_pos (step2 _ _ (by omega))]
    ·rw [if_neg (fun h => h3 (clt.1 h)), if_neg (fun h => h4 (dlt.1 h)), show c.toNat - 48 = d.toNat - 48 by omega]
     simp only [Nat.add_lt_add_iff_left]
end Go.Ar

/-
 PLANE GEOMETRY over the rational numbers: segments. Own work.
-/
namespace Go.Ge

abbrev Pt := Rat × Rat
/-- the doubled area of a triangle -/
def ar (a b c : Pt) : Rat := (b.1 - a.1) * (c.2 - a.2) - (b.2 - a.2) * (c.1 - a.1)
/-- the order of points -/
def le (a b : Pt) : Prop := a.1 < b.1 ∨ (a.1 = b.1 ∧ a.2 ≤ b.2)
theorem le_refl (a : Pt) : le a a := .inr ⟨rfl, Rat.le_refl⟩
theorem le_total (a b : Pt) : le a b ∨ le b a := by unfold le; grind
theorem le_trans {a b c : Pt} (h : le a b) (k : le b c) : le a c := by unfold le at *; grind
theorem le_antisymm {a b : Pt} (h : le a b) (k : le b a) : a = b := by
 have h1 : a.1 = b.1 := by unfold le at *; grind
 have h2 : a.2 = b.2 := by unfold le at *; grind
 exact Prod.ext h1 h2
/-- a place on a segment -/
def btw (a b p : Pt) : Prop := ar a b p = 0 ∧ (le a p ∧ le p b ∨ le b p ∧ le p a)
def onS (a b p : Pt) : Prop := ∃ t : Rat, 0 ≤ t ∧ t ≤ 1 ∧ p.1 = a.1 + t * (b.1 - a.1) ∧ p.2 = a.2 + t * (b.2 - a.2)
end Go.Ge

/-
 PLANE GEOMETRY: how two segments meet: two ways to find it. Own work.
-/
namespace Go.Ge

instance (a b : Pt) : Decidable (le a b) := inferInstanceAs (Decidable (a.1 < b.1 ∨ (a.1 = b.1 ∧ a.2 ≤ b.2)))
instance (a b p : Pt) : Decidable (btw a b p) := inferInstanceAs (Decidable (ar a b p = 0 ∧ (le a p ∧ le p b ∨ le b p ∧ le p a)))
/-- how two segments meet -/
inductive Mt where
 | apart
 | touch (p : Pt)
 | over
def mn (a b : Pt) : Pt := if le a b then a else b
def mx (a b : Pt) : Pt := if le a b then b else a
/-- the program's, on one line -/
def colP (a b c d : Pt) : Mt :=
 let low := mx (mn a b) (mn c d)
 let high := mn (mx a b) (mx c d)
 if low = high then .touch low else if le low high then .over else .apart
/-- the place at a share of the way -/
def atK (c d : Pt) (p q : Rat) : Pt := (c.1 + p / (p - q) * (d.1 - c.1), c.2 + p / (p - q) * (d.2 - c.2))
/-- the program's -/
def meetP (a b c d : Pt) : Mt :=
 if ar a b c = 0 ∧ ar a b d = 0 then colP a b c d
 else if 0 < ar a b c * ar a b d ∨ 0 < ar c d a * ar c d b then .apart
 else .touch (atK c d (ar a b c) (ar a b d))
/-- the law's: the ends that both have -/
def onB (a b c d : Pt) (l : List Pt) : List Pt := l.foldl (fun o x => if btw a b x ∧ btw c d x then (if x ∈ o then o else o ++ [x]) else o) []
def meetL (a b c d : Pt) : Mt :=
 match onB a b c d [a, b, c, d] with
 | [x] => .touch x
 | _ :: _ :: _ => .over
 | [] => if 0 ≤ ar c d a * ar c d b ∨ 0 ≤ ar a b c * ar a b d then .apart else .touch (atK a b (ar c d a) (ar c d b))
end Go.Ge

/-
 FOLDS WITH STRAIGHT LIMBS: the plane figures as functions of rational numbers. Own work.
-/
namespace Go.Kk
open Go.Ge

def pl (p d : Pt) (k : Rat) : Pt := (p.1 + k * d.1, p.2 + k * d.2)
def mn (p q : Pt) : Pt := pl p q (-1)
def dt (p q : Pt) : Rat := p.1 * q.1 + p.2 * q.2
def dirK (t : Rat) : Pt := ((1 - t * t) / (1 + t * t), (t + t) / (1 + t * t))
def upK (d : Pt) : Pt := (-d.2, d.1)
def nrm (t : Rat) : Pt := upK (dirK t)
def avg (n m : Pt) : Pt := pl (0, 0) (pl n m 1) (1 / (1 + dt n m))

/-- a profile: how many domains, where it begins, the half-tangents, the lengths -/
structure Pf where
 n : Nat
 s : Pt
 t : Nat → Rat
 l : Nat → Rat

/-- a domain: along, normal, where it begins, its length -/
structure Dm where
 a : Pt
 n : Pt
 f : Pt
 l : Rat

/-- where the k-th domain begins -/
def Pf.at' (p : Pf) : Nat → Pt
 | 0 => p.s
 | k + 1 => pl (p.at' k) (dirK (p.t k)) (p.l k)
def Pf.dm (p : Pf) (k : Nat) : Dm := ⟨dirK (p.t k), nrm (p.t k), p.at' k, p.l k⟩
/-- how the k-th end moves with the height -/
def Pf.ax (p : Pf) (k : Nat) : Pt := if k = 0 then nrm (p.t 0) else if k = p.n then nrm (p.t (k - 1)) else avg (nrm (p.t (k - 1))) (nrm (p.t k))
/-- how the length of a domain changes with the height -/
def Pf.gr (p : Pf) (k : Nat) : Rat := dt (dirK (p.t k)) (mn (p.ax (k + 1)) (p.ax k))
def Pf.ln (p : Pf) (h : Rat) (k : Nat) : Rat := p.l k + p.gr k * h
def Pf.bd (p : Pf) (h : Rat) (k : Nat) : Pt := pl (p.at' k) (p.ax k) h

theorem sq1_ne (t : Rat) : (1 : Rat) + t * t ≠ 0 := by
 have h : (0 : Rat) ≤ t * t := by
  rcases Rat.le_total (a := 0) (b := t) with h | h
  ·exact Rat.mul_nonneg h h
  ·have := Rat.mul_nonneg (a := -t) (b := -t) (by grind) (by grind)
   grind
 grind

end Go.Kk
