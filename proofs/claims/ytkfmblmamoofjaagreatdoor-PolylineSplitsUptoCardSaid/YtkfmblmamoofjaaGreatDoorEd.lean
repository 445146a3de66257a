/-
 DECIMAL TEXTS in plain Lean: what digits write, and how the library reads them. Own work.
-/
import Derived.Lib.ItoaNum
import Derived.Lib.ParseIntB
import Derived.Lib.Bytealg
import Derived.Test.YtkfmblmamoofjaaGreatDoorEa
set_option linter.unusedVariables false
set_option linter.unusedSimpArgs false
namespace Go.Ar
open Go.Lib

/-- the digits of a number -/
abbrev dd (n : Nat) : List UInt8 := decDigits n
/-- the digits of an integer -/
abbrev tz (z : Int) : List UInt8 := itoa z
def isDec (l : List UInt8) : Prop := ∀ c ∈ l, 48 ≤ c.toNat ∧ c.toNat ≤ 57
/-- what digits write -/
def dstep (a : Nat) (c : UInt8) : Nat := a * 10 + (c.toNat - 48)
def dva (acc : Nat) (l : List UInt8) : Nat := l.foldl dstep acc
theorem dva_nil (acc : Nat) : dva acc [] = acc := by unfold dva; simp only [List.foldl_nil]
theorem dva_cons (acc : Nat) (c : UInt8) (r : List UInt8) : dva acc (c :: r) = dva (acc * 10 + (c.toNat - 48)) r := by unfold dva; simp only [List.foldl_cons]; unfold dstep; exact Eq.refl _
theorem dva_append (l m : List UInt8) (acc : Nat) : dva acc (l ++ m) = dva (dva acc l) m := by
 induction l generalizing acc with
 | nil => simp only [List.nil_append, dva_nil, dva_cons]
 | cons c l ih => simp only [List.cons_append, dva_nil, dva_cons]; exact ih _
theorem dva_lin : ∀ (l : List UInt8) (acc : Nat), dva acc l = acc * 10 ^ l.length + dva 0 l
 | [], acc => by simp [dva_nil, dva_cons]
 | c :: l, acc => by
   simp only [dva_nil, dva_cons, List.length_cons]
   rw [dva_lin l, dva_lin l (0 * 10 + _), Nat.pow_succ, Nat.zero_mul, Nat.zero_add, Nat.add_mul, Nat.mul_assoc, Nat.mul_comm 10]
   omega
theorem dva_ge (l : List UInt8) (acc : Nat) : acc ≤ dva acc l := by
 rw [dva_lin]
 have : acc * 1 ≤ acc * 10 ^ l.length := Nat.mul_le_mul_left _ (Nat.one_le_pow _ _ (by decide))
 omega
theorem isDec_append {l m : List UInt8} : isDec (l ++ m) ↔ isDec l ∧ isDec m := by
 simp only [isDec, List.mem_append]
 exact ⟨fun h => ⟨fun c hc => h c (.inl hc), fun c hc => h c (.inr hc)⟩, fun h c hc => hc.elim (h.1 c) (h.2 c)⟩
theorem isDec_one {c : UInt8} (h : 48 ≤ c.toNat ∧ c.toNat ≤ 57) : isDec [c] := fun d hd => by rw [List.mem_singleton.1 hd]; exact h
theorem isDec_take {l : List UInt8} (h : isDec l) (n : Nat) : isDec (l.take n) := fun c hc => h c (List.mem_of_mem_take hc)
theorem isDec_drop {l : List UInt8} (h : isDec l) (n : Nat) : isDec (l.drop n) := fun c hc => h c (List.mem_of_mem_drop hc)
theorem dva_lt : ∀ {l : List UInt8}, isDec l → dva 0 l < 10 ^ l.length
 | [], _ => by simp [dva_nil, dva_cons]
 | c :: l, h => by
   have hc := h c (List.mem_cons_self ..)
   have ih := dva_lt (l := l) fun d hd => h d (List.mem_cons_of_mem _ hd)
   simp only [dva_nil, dva_cons, List.length_cons]
   rw [dva_lin, Nat.pow_succ, Nat.zero_mul, Nat.zero_add]
   have : (c.toNat - 48) * 10 ^ l.length ≤ 9 * 10 ^ l.length := Nat.mul_le_mul_right _ (by omega)
   omega
theorem ofNat_toNat {c : UInt8} : UInt8.ofNat c.toNat = c := by simp
theorem dig_toNat {d : Nat} (h : d < 10) : (UInt8.ofNat (48 + d)).toNat = 48 + d := by
 rw [UInt8.toNat_ofNat']; omega

theorem dd_small {u : Nat} (h : u < 10) : dd u = [UInt8.ofNat (48 + u)] := by unfold dd; rw [decDigits, dif_pos h]
theorem dd_big {u : Nat} (h : ¬u < 10) : dd u = dd (u / 10) ++ [UInt8.ofNat (48 + u % 10)] := by unfold dd; rw [decDigits, dif_neg h]
theorem dd_isDec (n : Nat) : isDec (dd n) := by
 induction n using Nat.strongRecOn with
 | _ n ih =>
   by_cases h : n < 10
   ·rw [dd_small h]; exact isDec_one (by rw [dig_toNat h]; omega)
   ·rw [dd_big h, isDec_append]
    exact ⟨ih _ (by omega), isDec_one (by rw [dig_toNat (Nat.mod_lt _ (by decide))]; omega)⟩
theorem dd_dva (n : Nat) : dva 0 (dd n) = n := by
 induction n using Nat.strongRecOn with
 | _ n ih =>
   by_cases h : n < 10
   ·rw [dd_small h]; simp only [dva_nil, dva_cons, dig_toNat h]; omega
   ·rw [dd_big h, dva_append, ih _ (by omega)]
    simp only [dva_nil, dva_cons, dig_toNat (Nat.mod_lt n (show 0 < 10 by decide))]; omega
theorem dd_inj {m n : Nat} (h : dd m = dd n) : m = n := by rw [← dd_dva m, h, dd_dva]
theorem dd_len_pos (n : Nat) : 0 < (dd n).length := by rw [decDigits_length]; exact nDigits_pos n
theorem dd_ne (n : Nat) : dd n ≠ [] := fun h => by have := dd_len_pos n; rw [h] at this; simp at this
theorem dd_zero : dd 0 = [48] := by rw [dd_small (by decide)]; rfl
theorem dd_lt (n : Nat) : n < 10 ^ (dd n).length := by rw [decDigits_length]; exact lt_pow_nDigits n
theorem dd_len_le {k : Nat} : ∀ {n : Nat}, 0 < k → n < 10 ^ k → (dd n).length ≤ k := by
 induction k with
 | zero => intro n h; omega
 | succ k ih =>
   intro n _ h
   by_cases h1 : n < 10
   ·rw [dd_small h1]; simp
   ·rw [dd_big h1, List.length_append, List.length_singleton]
    rw [Nat.pow_succ] at h
    have hk : 0 < k := by
     rcases Nat.eq_zero_or_pos k with h0 | h0
     ·subst h0; simp at h; omega
     ·exact h0
    have := ih (n := n / 10) hk (by omega)
    omega
theorem dd_ge {n : Nat} (h : 0 < n) : 10 ^ ((dd n).length - 1) ≤ n := by
 rcases Nat.lt_or_ge n (10 ^ ((dd n).length - 1)) with h1 | h1
 ·rcases Nat.eq_zero_or_pos ((dd n).length - 1) with h0 | h0
  ·rw [h0] at h1; simp at h1; omega
  ·have := dd_len_le h0 h1; omega
 ·exact h1
theorem dd_len_mono {m n : Nat} (h : m ≤ n) : (dd m).length ≤ (dd n).length := dd_len_le (dd_len_pos n) (Nat.lt_of_le_of_lt h (dd_lt n))
theorem dd_len_lt {m n : Nat} (h : (dd m).length < (dd n).length) : m < n := by
 rcases Nat.lt_or_ge m n with h1 | h1
 ·exact h1
 ·have := dd_len_mono h1; omega

/-- digits without a zero ahead are those of their number -/
theorem dd_canon : ∀ (k : Nat) (l : List UInt8), l.length = k → isDec l → l ≠ [] → (∀ r, l = 48 :: r → r = []) → dd (dva 0 l) = l := by
 intro k
 induction k with
 | zero => intro l h _ h2; exact absurd (List.eq_nil_of_length_eq_zero h) h2
 | succ k ih =>
   intro l hl hd hne hz
   have e := List.dropLast_concat_getLast hne
   generalize l.dropLast = r at e
   generalize l.getLast hne = c at e
   subst e
   have hlr : r.length = k := by simpa using hl
   obtain ⟨hr, hc⟩ := isDec_append.1 hd
   have hc := hc c (by simp)
   rw [dva_append]
   simp only [dva_nil, dva_cons]
   have ec : UInt8.ofNat (48 + (c.toNat - 48)) = c := by rw [show 48 + (c.toNat - 48) = c.toNat by omega, ofNat_toNat]
   by_cases hr0 : r = []
   ·subst hr0
    simp only [dva_nil, dva_cons, Nat.zero_mul, Nat.zero_add, List.nil_append]
    rw [dd_small (by omega), ec]
   ·have hz2 : ∀ s, r = 48 :: s → s = [] := fun s hs => by
     subst hs
     have := hz (s ++ [c]) rfl
     simp at this
    have h1 := ih r hlr hr hr0 hz2
    have h2 : 0 < dva 0 r := by
     rcases Nat.eq_zero_or_pos (dva 0 r) with h0 | h0
     ·rw [h0, dd_zero] at h1
      subst h1
      have := hz [c] rfl
      cases this
     ·exact h0
    rw [dd_big (by omega), show (dva 0 r * 10 + (c.toNat - 48)) / 10 = dva 0 r by omega, show (dva 0 r * 10 + (c.toNat - 48)) % 10 = c.toNat - 48 by omega, h1, ec]
theorem dd_head {n : Nat} {r : List UInt8} (h : dd n = 48 :: r) : r = [] ∧ n = 0 := by
 have h0 : n = 0 := by
  rcases Nat.eq_zero_or_pos n with h0 | h0
  ·exact h0
  ·have h1 := dd_ge h0
   have h2 := dd_dva n
   have h3 := dva_lt (l := r) fun c hc => dd_isDec n c (by rw [h]; exact List.mem_cons_of_mem _ hc)
   rw [h] at h1 h2
   simp only [dva_nil, dva_cons] at h2
   have : (48 : UInt8).toNat - 48 = 0 := rfl
   rw [this, Nat.zero_mul, Nat.add_zero] at h2
   rw [h2] at h3
   simp only [List.length_cons, Nat.add_sub_cancel] at h1
   omega
 subst h0
 rw [dd_zero] at h
 cases h
 exact ⟨rfl, rfl⟩

def padz (k : Nat) (l : List UInt8) : List UInt8 := List.replicate (k - l.length) 48 ++ l
theorem dec_pad {h : Nat} (hh : 0 < h) : ∀ {k lo : Nat}, lo < 10 ^ (k + 1) → dd (h * 10 ^ (k + 1) + lo) = dd h ++ padz (k + 1) (dd lo)
 | 0, lo, hl => by
   rw [Nat.zero_add, Nat.pow_one] at hl ⊢
   rw [dd_big (by omega), show (h * 10 + lo) / 10 = h by omega, show (h * 10 + lo) % 10 = lo by omega, padz, dd_small hl]; rfl
 | k + 1, lo, hl => by
   have hp : 1 ≤ 10 ^ (k + 1) := Nat.one_le_pow _ _ (by decide)
   rw [Nat.pow_succ] at hl ⊢
   have hge : 1 * 10 ^ (k + 1) ≤ h * 10 ^ (k + 1) := Nat.mul_le_mul_right _ hh
   rw [← Nat.mul_assoc]
   rw [dd_big (by omega), show (h * 10 ^ (k + 1) * 10 + lo) / 10 = h * 10 ^ (k + 1) + lo / 10 by omega, show (h * 10 ^ (k + 1) * 10 + lo) % 10 = lo % 10 by omega, dec_pad hh (by omega), List.append_assoc]
   congr 1
   unfold padz
   by_cases h1 : lo < 10
   ·rw [show lo / 10 = 0 by omega, dd_zero, dd_small h1, show lo % 10 = lo by omega]
    simp only [List.length_singleton, Nat.add_sub_cancel]
    rw [List.replicate_succ', List.append_assoc]
   ·rw [dd_big h1, List.length_append, List.length_singleton, Nat.add_sub_add_right, List.append_assoc]

/-! ### reading -/
theorem uintM_ok {M : Nat} (hM : M < 18446744073709551616) : ∀ (l : List UInt8) (acc : Nat), isDec l → dva acc l ≤ M → parseUintM M acc l = .ok (dva acc l)
 | [], acc, _, _ => rfl
 | c :: r, acc, hd, hv => by
   have hc := hd c (List.mem_cons_self ..)
   simp only [dva_nil, dva_cons] at hv
   have h1 := dva_ge r (acc * 10 + (c.toNat - 48))
   simp only [parseUintM, dva_nil, dva_cons]
   rw [if_pos hc, if_neg (by omega), if_neg (by omega)]
   exact uintM_ok hM r _ (fun d hd' => hd d (List.mem_cons_of_mem _ hd')) hv
theorem uint10_ok : ∀ (l : List UInt8) (acc : Nat), isDec l → dva acc l < 18446744073709551616 → parseUint10 acc l = .ok (dva acc l)
 | [], acc, _, _ => rfl
 | c :: r, acc, hd, hv => by
   have hc := hd c (List.mem_cons_self ..)
   simp only [dva_nil, dva_cons] at hv
   have h1 := dva_ge r (acc * 10 + (c.toNat - 48))
   simp only [parseUint10, dva_nil, dva_cons]
   rw [if_pos hc, if_neg (by omega), if_neg (by omega)]
   exact uint10_ok r _ (fun d hd' => hd d (List.mem_cons_of_mem _ hd')) hv
theorem uintB_ok {l : List UInt8} (hne : l ≠ []) (hd : isDec l) (hv : dva 0 l < 18446744073709551616) : parseUintB 64 l = .ok (dva 0 l) := by
 unfold parseUintB
 rw [if_neg hne, uintM_ok (by decide) l 0 hd (by omega)]
theorem atoi_tz {z : Int} (h0 : -9223372036854775808 ≤ z) (h1 : z ≤ 9223372036854775807) : atoiAll (tz z) = .ok z := by
 unfold tz itoa
 split
 ·rename_i h
  have hm : parseMag (dd z.natAbs) = .ok z.natAbs := by
   unfold parseMag
   rw [if_neg (dd_ne _), uint10_ok _ _ (dd_isDec _) (by rw [dd_dva]; omega), dd_dva]
  unfold atoiAll
  simp only []
  rw [if_pos (.inr rfl), hm]
  simp only []
  have e : (45 : UInt8).toNat = 45 := rfl
  rw [if_neg (by simp [e]), if_neg (by omega), if_pos e]
  congr 1; omega
 ·rename_i h
  have hm : parseMag (dd z.toNat) = .ok z.toNat := by
   unfold parseMag
   rw [if_neg (dd_ne _), uint10_ok _ _ (dd_isDec _) (by rw [dd_dva]; omega), dd_dva]
  unfold atoiAll
  have hd := dd_isDec z.toNat
  split
  ·rename_i h2; exact absurd h2 (dd_ne _)
  ·rename_i c r h2
   have hc := hd c (by unfold dd; rw [h2]; exact List.mem_cons_self ..)
   rw [if_neg (by omega), hm]
   simp only []
   rw [if_neg (by omega), if_neg (by omega), if_neg (by omega)]
   congr 1; omega

def cmpN' (m n : Nat) : Int := if m < n then -1 else if n < m then 1 else 0
theorem cmpB_dec : ∀ {l m : List UInt8}, isDec l → isDec m → l.length = m.length → compareBytes l m = cmpN' (dva 0 l) (dva 0 m)
 | [], [], _, _, _ => rfl
 | [], _ :: _, _, _, h => by simp at h
 | _ :: _, [], _, _, h => by simp at h
 | c :: l, d :: m, hl, hm, hlen => by
   simp only [List.length_cons, Nat.add_right_cancel_iff] at hlen
   have hc := hl c (List.mem_cons_self ..)
   have hd := hm d (List.mem_cons_self ..)
   have hl2 : isDec l := fun x hx => hl x (List.mem_cons_of_mem _ hx)
   have hm2 : isDec m := fun x hx => hm x (List.mem_cons_of_mem _ hx)
   have h1 := dva_lt hl2
   have h2 := dva_lt hm2
   have ih := cmpB_dec hl2 hm2 hlen
   simp only [compareBytes, dva_nil, dva_cons]
   rw [dva_lin l, dva_lin m, hlen]
   rw [hlen] at h1
   simp only [Nat.zero_mul, Nat.zero_add]
   rw [ih]
   have step : ∀ x y : Nat, x < y → x * 10 ^ m.length + dva 0 l < y * 10 ^ m.length + dva 0 m := fun x y h => by
    have := Nat.mul_le_mul_right (10 ^ m.length) (show x + 1 ≤ y from h)
    rw [Nat.add_mul] at this; omega
   have step2 : ∀ x y : Nat, y < x → y * 10 ^ m.length + dva 0 m < x * 10 ^ m.length + dva 0 l := fun x y h => by
    have := Nat.mul_le_mul_right (10 ^ m.length) (show y + 1 ≤ x from h)
    rw [Nat.add_mul] at this; omega
   have clt : (c < d) ↔ c.toNat < d.toNat := UInt8.lt_iff_toNat_lt
   have dlt : (d < c) ↔ d.toNat < c.toNat := UInt8.lt_iff_toNat_lt
   unfold cmpN'
   by_cases h3 : c.toNat < d.toNat
   ·rw [if_pos (clt.2 h3), if_pos (step _ _ (by omega))]
   ·by_cases h4 : d.toNat < c.toNat
    ·rw [if_neg (fun h => h3 (clt.1 h)), if_pos (dlt.2 h4), if_neg (Nat.not_lt.2 (Nat.le_of_lt (step2 _ _ (by omega)))), if_pos (step2 _ _ (by omega))]
    ·rw [if_neg (fun h => h3 (clt.1 h)), if_neg (fun h => h4 (dlt.1 h)), show c.toNat - 48 = d.toNat - 48 by omega]
     simp only [Nat.add_lt_add_iff_left]
end Go.Ar

/-
 PLANE GEOMETRY over the rational numbers: segments. Own work.
-/
namespace Go.Ge

abbrev Pt := Rat × Rat
/-- the doubled area of a triangle -/
def ar (a b c : Pt) : Rat := (b.1 - a.1) * (c.2 - a.2) - (b.2 - a.2) * (c.1 - a.1)
/-- the order of points -/
def le (a b : Pt) : Prop := a.1 < b.1 ∨ (a.1 = b.1 ∧ a.2 ≤ b.2)
theorem le_refl (a : Pt) : le a a := .inr ⟨rfl, Rat.le_refl⟩
theorem le_total (a b : Pt) : le a b ∨ le b a := by unfold le; grind
theorem le_trans {a b c : Pt} (h : le a b) (k : le b c) : le a c := by unfold le at *; grind
theorem le_antisymm {a b : Pt} (h : le a b) (k : le b a) : a = b := by
 have h1 : a.1 = b.1 := by unfold le at *; grind
 have h2 : a.2 = b.2 := by unfold le at *; grind
 exact Prod.ext h1 h2
/-- a place on a segment -/
def btw (a b p : Pt) : Prop := ar a b p = 0 ∧ (le a p ∧ le p b ∨ le b p ∧ le p a)
def onS (a b p : Pt) : Prop := ∃ t : Rat, 0 ≤ t ∧ t ≤ 1 ∧ p.1 = a.1 + t * (b.1 - a.1) ∧ p.2 = a.2 + t * (b.2 - a.2)
theorem onS_symm {a b p : Pt} (h : onS a b p) : onS b a p := by
 obtain ⟨t, h1, h2, h3, h4⟩ := h
 exact ⟨1 - t, by grind, by grind, by grind, by grind⟩
theorem onS_of_le {a b p : Pt} (h : ar a b p = 0) (h1 : le a p) (h2 : le p b) : onS a b p := by
 by_cases hx : a.1 = b.1
 ·by_cases hy : a.2 = b.2
  ·refine ⟨0, by decide, by decide, ?_, ?_⟩ <;> unfold le at * <;> grind
  ·have hy' : a.2 < b.2 := by unfold le at *; grind
   have hne : b.2 - a.2 ≠ 0 := by grind
   have e : (p.2 - a.2) / (b.2 - a.2) * (b.2 - a.2) = p.2 - a.2 := by grind
   have p1 : a.2 ≤ p.2 := by unfold le at *; grind
   have p2 : p.2 ≤ b.2 := by unfold le at *; grind
   generalize (p.2 - a.2) / (b.2 - a.2) = t at *
   refine ⟨t, ?_, ?_, by unfold le at *; grind, by grind⟩
   ·refine Rat.not_lt.1 fun h' => ?_
    have := Rat.mul_pos (show 0 < -t by grind) (show 0 < b.2 - a.2 by grind)
    grind
   ·refine Rat.not_lt.1 fun h' => ?_
    have := Rat.mul_pos (show 0 < t - 1 by grind) (show 0 < b.2 - a.2 by grind)
    grind
 ·have hx' : a.1 < b.1 := by unfold le at *; grind
  have hne : b.1 - a.1 ≠ 0 := by grind
  have e : (p.1 - a.1) / (b.1 - a.1) * (b.1 - a.1) = p.1 - a.1 := by grind
  have p1 : a.1 ≤ p.1 := by unfold le at *; grind
  have p2 : p.1 ≤ b.1 := by unfold le at *; grind
  generalize (p.1 - a.1) / (b.1 - a.1) = t at *
  refine ⟨t, ?_, ?_, by grind, ?_⟩
  ·refine Rat.not_lt.1 fun h' => ?_
   have := Rat.mul_pos (show 0 < -t by grind) (show 0 < b.1 - a.1 by grind)
   grind
  ·refine Rat.not_lt.1 fun h' => ?_
   have := Rat.mul_pos (show 0 < t - 1 by grind) (show 0 < b.1 - a.1 by grind)
   grind
  ·unfold ar at h
   have : (b.1 - a.1) * (p.2 - a.2 - t * (b.2 - a.2)) = 0 := by grind
   have := (Rat.mul_eq_zero.1 this).resolve_left hne
   grind
theorem btw_onS {a b p : Pt} : btw a b p ↔ onS a b p := by
 constructor
 ·rintro ⟨h, ⟨h1, h2⟩ | ⟨h1, h2⟩⟩
  ·exact onS_of_le h h1 h2
  ·exact onS_symm (onS_of_le (by unfold ar at *; grind) h1 h2)
 ·intro h
  have key : ∀ {a b : Pt}, onS a b p → le a b → le a p ∧ le p b := by
   intro a b ⟨t, t0, t1, e1, e2⟩ hab
   by_cases hx : a.1 = b.1
   ·have hy : a.2 ≤ b.2 := by unfold le at hab; grind
    have m1 := Rat.mul_nonneg t0 (show 0 ≤ b.2 - a.2 by grind)
    have m2 := Rat.mul_nonneg (show 0 ≤ 1 - t by grind) (show 0 ≤ b.2 - a.2 by grind)
    exact ⟨.inr ⟨by grind, by grind⟩, .inr ⟨by grind, by grind⟩⟩
   ·have hx' : a.1 < b.1 := by unfold le at hab; grind
    have m1 := Rat.mul_nonneg t0 (show 0 ≤ b.1 - a.1 by grind)
    have m2 := Rat.mul_nonneg (show 0 ≤ 1 - t by grind) (show 0 ≤ b.1 - a.1 by grind)
    constructor
    ·by_cases h0 : t = 0
     ·subst h0; exact .inr ⟨by grind, by grind⟩
     ·left
      have := Rat.mul_pos (show 0 < t by grind) (show 0 < b.1 - a.1 by grind)
      grind
    ·by_cases h0 : t = 1
     ·subst h0; exact .inr ⟨by grind, by grind⟩
     ·left
      have := Rat.mul_pos (show 0 < 1 - t by grind) (show 0 < b.1 - a.1 by grind)
      grind
  refine ⟨by obtain ⟨t, _, _, e1, e2⟩ := h; unfold ar; rw [e1, e2]; grind, ?_⟩
  rcases le_total a b with hab | hab
  ·exact .inl (key h hab)
  ·exact .inr (key (onS_symm h) hab)
theorem onS_left (a b : Pt) : onS a b a := ⟨0, by decide, by decide, by grind, by grind⟩
theorem onS_right (a b : Pt) : onS a b b := ⟨1, by decide, by decide, by grind, by grind⟩
end Go.Ge

/-
 PLANE GEOMETRY: how two segments meet: two ways to find it. Own work.
-/
namespace Go.Ge

instance (a b : Pt) : Decidable (le a b) := inferInstanceAs (Decidable (a.1 < b.1 ∨ (a.1 = b.1 ∧ a.2 ≤ b.2)))
instance (a b p : Pt) : Decidable (btw a b p) := inferInstanceAs (Decidable (ar a b p = 0 ∧ (le a p ∧ le p b ∨ le b p ∧ le p a)))
/-- how two segments meet -/
inductive Mt where
 | apart
 | touch (p : Pt)
 | over
def mn (a b : Pt) : Pt := if le a b then a else b
def mx (a b : Pt) : Pt := if le a b then b else a
theorem mn_cases (a b : Pt) : (mn a b = a ∧ le a b) ∨ (mn a b = b ∧ le b a) := by
 unfold mn
 split
 ·rename_i h; exact .inl ⟨rfl, h⟩
 ·rename_i h; exact .inr ⟨rfl, (le_total a b).resolve_left h⟩
theorem mx_cases (a b : Pt) : (mx a b = b ∧ le a b) ∨ (mx a b = a ∧ le b a) := by
 unfold mx
 split
 ·rename_i h; exact .inl ⟨rfl, h⟩
 ·rename_i h; exact .inr ⟨rfl, (le_total a b).resolve_left h⟩
/-- the program's, on one line -/
def colP (a b c d : Pt) : Mt :=
 let low := mx (mn a b) (mn c d)
 let high := mn (mx a b) (mx c d)
 if low = high then .touch low else if le low high then .over else .apart
/-- the place at a share of the way -/
def atK (c d : Pt) (p q : Rat) : Pt := (c.1 + p / (p - q) * (d.1 - c.1), c.2 + p / (p - q) * (d.2 - c.2))
/-- the program's -/
def meetP (a b c d : Pt) : Mt :=
 if ar a b c = 0 ∧ ar a b d = 0 then colP a b c d
 else if 0 < ar a b c * ar a b d ∨ 0 < ar c d a * ar c d b then .apart
 else .touch (atK c d (ar a b c) (ar a b d))
/-- the law's: the ends that both have -/
def onB (a b c d : Pt) (l : List Pt) : List Pt := l.foldl (fun o x => if btw a b x ∧ btw c d x then (if x ∈ o then o else o ++ [x]) else o) []
def meetL (a b c d : Pt) : Mt :=
 match onB a b c d [a, b, c, d] with
 | [x] => .touch x
 | _ :: _ :: _ => .over
 | [] => if 0 ≤ ar c d a * ar c d b ∨ 0 ≤ ar a b c * ar a b d then .apart else .touch (atK a b (ar c d a) (ar c d b))
theorem onB_mem (a b c d : Pt) : ∀ (n : Nat) (l : List Pt), l.length = n → (onB a b c d l).Nodup ∧ ∀ x, x ∈ onB a b c d l ↔ x ∈ l ∧ btw a b x ∧ btw c d x
 | 0, l, hl => by
   obtain rfl : l = [] := List.length_eq_zero_iff.1 hl
   exact ⟨.nil, fun x => by simp [onB]⟩
 | n + 1, l, hl => by
   obtain ⟨l', y, rfl⟩ : ∃ l' x, l = l' ++ [x] := ⟨l.dropLast, l.getLast (by intro e; rw [e] at hl; simp at hl), (List.dropLast_concat_getLast _).symm⟩
   obtain ⟨h1, h2⟩ := onB_mem a b c d n l' (by simpa using hl)
   have e : onB a b c d (l' ++ [y]) = if btw a b y ∧ btw c d y then (if y ∈ onB a b c d l' then onB a b c d l' else onB a b c d l' ++ [y]) else onB a b c d l' := by
    show List.foldl _ _ _ = _
    rw [List.foldl_append]; rfl
   rw [e]
   by_cases hc : btw a b y ∧ btw c d y
   ·rw [if_pos hc]
    by_cases hm : y ∈ onB a b c d l'
    ·rw [if_pos hm]
     refine ⟨h1, fun x => ?_⟩
     rw [h2]
     constructor
     ·rintro ⟨p, q⟩; exact ⟨List.mem_append_left _ p, q⟩
     ·rintro ⟨p, q⟩
      rcases List.mem_append.1 p with p | p
      ·exact ⟨p, q⟩
      ·rw [List.mem_singleton.1 p]; exact (h2 y).1 hm
    ·rw [if_neg hm]
     refine ⟨?_, fun x => ?_⟩
     ·rw [List.nodup_append]
      exact ⟨h1, by simp, fun u hu v hv e => by rw [List.mem_singleton.1 hv] at e; rw [e] at hu; exact hm hu⟩
     ·rw [List.mem_append, List.mem_append, h2, List.mem_singleton]
      constructor
      ·rintro (⟨p, q⟩ | rfl)
       ·exact ⟨.inl p, q⟩
       ·exact ⟨.inr rfl, hc⟩
      ·rintro ⟨p | rfl, q⟩
       ·exact .inl ⟨p, q⟩
       ·exact .inr rfl
   ·rw [if_neg hc]
    refine ⟨h1, fun x => ?_⟩
    rw [h2, List.mem_append, List.mem_singleton]
    constructor
    ·rintro ⟨p, q⟩; exact ⟨.inl p, q⟩
    ·rintro ⟨p | rfl, q⟩
     ·exact ⟨p, q⟩
     ·exact absurd q hc
/-- from the ends that both have to the law's answer -/
theorem meetL_none {a b c d : Pt} (h : ∀ x ∈ [a, b, c, d], ¬(btw a b x ∧ btw c d x)) : meetL a b c d = if 0 ≤ ar c d a * ar c d b ∨ 0 ≤ ar a b c * ar a b d then .apart else .touch (atK a b (ar c d a) (ar c d b)) := by
 obtain ⟨_, h2⟩ := onB_mem a b c d 4 [a, b, c, d] rfl
 have e : onB a b c d [a, b, c, d] = [] := List.eq_nil_iff_forall_not_mem.2 fun x hx => h x ((h2 x).1 hx).1 ((h2 x).1 hx).2
 unfold meetL
 rw [e]
theorem meetL_one {a b c d z : Pt} (hz : z ∈ [a, b, c, d]) (hc : btw a b z ∧ btw c d z) (h : ∀ x ∈ [a, b, c, d], btw a b x ∧ btw c d x → x = z) : meetL a b c d = .touch z := by
 obtain ⟨h1, h2⟩ := onB_mem a b c d 4 [a, b, c, d] rfl
 have hm := (h2 z).2 ⟨hz, hc⟩
 have hall : ∀ x ∈ onB a b c d [a, b, c, d], x = z := fun x hx => h x ((h2 x).1 hx).1 ((h2 x).1 hx).2
 unfold meetL
 generalize onB a b c d [a, b, c, d] = l at *
 match l with
 | [] => cases hm
 | [x] => rw [hall x (List.mem_cons_self ..)]
 | x :: y :: l =>
   have e1 := hall x (by simp)
   have e2 := hall y (by simp)
   obtain ⟨h3, _⟩ := List.nodup_cons.1 h1
   exact absurd (by rw [e1, ← e2]; exact List.mem_cons_self ..) h3
theorem meetL_two {a b c d z w : Pt} (hz : z ∈ [a, b, c, d]) (hc : btw a b z ∧ btw c d z) (hw : w ∈ [a, b, c, d]) (hc' : btw a b w ∧ btw c d w) (hne : z ≠ w) : meetL a b c d = .over := by
 obtain ⟨h1, h2⟩ := onB_mem a b c d 4 [a, b, c, d] rfl
 have hm := (h2 z).2 ⟨hz, hc⟩
 have hm' := (h2 w).2 ⟨hw, hc'⟩
 unfold meetL
 generalize onB a b c d [a, b, c, d] = l at *
 match l with
 | [] => cases hm
 | [x] => exact absurd ((List.mem_singleton.1 hm).trans (List.mem_singleton.1 hm').symm) hne
 | x :: y :: l => rfl
theorem ar_line {a b c d : Pt} {t : Rat} : ar a b (c.1 + t * (d.1 - c.1), c.2 + t * (d.2 - c.2)) = (1 - t) * ar a b c + t * ar a b d := by unfold ar; grind
theorem rat_sgn {p q : Rat} (h : ¬0 < p * q) (hn : ¬(p = 0 ∧ q = 0)) : p - q ≠ 0 ∧ 0 ≤ p / (p - q) ∧ p / (p - q) ≤ 1 := by
 have hne : p - q ≠ 0 := fun e => by
  have : p = q := by grind
  subst this
  rcases Rat.le_total (a := 0) (b := p) with h' | h'
  ·exact h (Rat.mul_pos (by grind) (by grind))
  ·have := Rat.mul_pos (show 0 < -p by grind) (show 0 < -p by grind)
   grind
 have e : p / (p - q) * (p - q) = p := by grind
 generalize p / (p - q) = t at *
 refine ⟨hne, ?_, ?_⟩
 ·refine Rat.not_lt.1 fun h' => ?_
  have h1 := Rat.mul_pos (show 0 < -t by grind) (show 0 < -t by grind)
  have h2 : 0 < (p - q) * (p - q) := by
   rcases Rat.le_total (a := 0) (b := p - q) with h3 | h3
   ·exact Rat.mul_pos (by grind) (by grind)
   ·have := Rat.mul_pos (show 0 < -(p - q) by grind) (show 0 < -(p - q) by grind)
    grind
  -- q = p - (p - q) = (t - 1) (p - q), p q = t (t - 1) (p - q)^2 > 0
  have h3 := Rat.mul_pos (show 0 < -t by grind) h2
  have h4 := Rat.mul_pos h1 h2
  have h5 : p * q = t * (t - 1) * ((p - q) * (p - q)) := by grind
  rw [h5] at h
  grind
 ·refine Rat.not_lt.1 fun h' => ?_
  have h2 : 0 < (p - q) * (p - q) := by
   rcases Rat.le_total (a := 0) (b := p - q) with h3 | h3
   ·exact Rat.mul_pos (by grind) (by grind)
   ·have := Rat.mul_pos (show 0 < -(p - q) by grind) (show 0 < -(p - q) by grind)
    grind
  have h4 := Rat.mul_pos (Rat.mul_pos (show 0 < t by grind) (show 0 < t - 1 by grind)) h2
  have h5 : p * q = t * (t - 1) * ((p - q) * (p - q)) := by grind
  rw [h5] at h
  grind
theorem btw_col {a b x : Pt} (h : ar a b x = 0) : btw a b x ↔ le (mn a b) x ∧ le x (mx a b) := by
 unfold btw
 rcases mn_cases a b with ⟨e1, h1⟩ | ⟨e1, h1⟩
 ·rcases mx_cases a b with ⟨e2, h2⟩ | ⟨e2, h2⟩
  ·rw [e1, e2]
   refine ⟨fun ⟨_, k⟩ => k.elim id fun ⟨k1, k2⟩ => ⟨le_trans h1 k1, le_trans k2 h1⟩, fun k => ⟨h, .inl k⟩⟩
  ·have e := le_antisymm h1 h2
   subst e
   rw [e1, e2]
   exact ⟨fun ⟨_, k⟩ => k.elim id id, fun k => ⟨h, .inl k⟩⟩
 ·rcases mx_cases a b with ⟨e2, h2⟩ | ⟨e2, h2⟩
  ·have e := le_antisymm h1 h2
   subst e
   rw [e1, e2]
   exact ⟨fun ⟨_, k⟩ => k.elim id id, fun k => ⟨h, .inl k⟩⟩
  ·rw [e1, e2]
   refine ⟨fun ⟨_, k⟩ => k.elim (fun ⟨k1, k2⟩ => ⟨le_trans h1 k1, le_trans k2 h1⟩) id, fun k => ⟨h, .inr k⟩⟩
/-- both ways find the same -/
theorem meet_eq {a b c d : Pt} (hab : a ≠ b) (hcd : c ≠ d) : meetP a b c d = meetL a b c d := by
 unfold meetP
 by_cases h0 : ar a b c = 0 ∧ ar a b d = 0
 ·rw [if_pos h0]
  obtain ⟨p0, q0⟩ := h0
  -- all four on both lines
  have hne : a.1 ≠ b.1 ∨ a.2 ≠ b.2 := by
   by_cases h : a.1 = b.1
   ·exact .inr fun h2 => hab (Prod.ext h h2)
   ·exact .inl h
  have u0 : ar c d a = 0 := by
   unfold ar at *
   rcases hne with h | h
   ·have : (b.1 - a.1) * ((d.1 - c.1) * (a.2 - c.2) - (d.2 - c.2) * (a.1 - c.1)) = 0 := by grind
    exact (Rat.mul_eq_zero.1 this).resolve_left (by grind)
   ·have : (b.2 - a.2) * ((d.1 - c.1) * (a.2 - c.2) - (d.2 - c.2) * (a.1 - c.1)) = 0 := by grind
    exact (Rat.mul_eq_zero.1 this).resolve_left (by grind)
  have v0 : ar c d b = 0 := by
   have : ar c d a - ar c d b = -(ar a b c - ar a b d) := by unfold ar; grind
   grind
  have hA : ∀ x ∈ [a, b, c, d], ar a b x = 0 ∧ ar c d x = 0 := by
   intro x hx
   simp only [List.mem_cons, List.not_mem_nil, or_false] at hx
   rcases hx with rfl | rfl | rfl | rfl
   ·exact ⟨by unfold ar; grind, u0⟩
   ·exact ⟨by unfold ar; grind, v0⟩
   ·exact ⟨p0, by unfold ar; grind⟩
   ·exact ⟨q0, by unfold ar; grind⟩
  have hC : ∀ x ∈ [a, b, c, d], (btw a b x ∧ btw c d x ↔ le (mx (mn a b) (mn c d)) x ∧ le x (mn (mx a b) (mx c d))) := by
   intro x hx
   rw [btw_col (hA x hx).1, btw_col (hA x hx).2]
   constructor
   ·rintro ⟨⟨k1, k2⟩, k3, k4⟩
    constructor
    ·rcases mx_cases (mn a b) (mn c d) with ⟨e, _⟩ | ⟨e, _⟩ <;> rw [e] <;> assumption
    ·rcases mn_cases (mx a b) (mx c d) with ⟨e, _⟩ | ⟨e, _⟩ <;> rw [e] <;> assumption
   ·rintro ⟨k1, k2⟩
    constructor
    ·constructor
     ·rcases mx_cases (mn a b) (mn c d) with ⟨e, k⟩ | ⟨e, k⟩ <;> rw [e] at k1
      ·exact le_trans k k1
      ·exact k1
     ·rcases mn_cases (mx a b) (mx c d) with ⟨e, k⟩ | ⟨e, k⟩ <;> rw [e] at k2
      ·exact k2
      ·exact le_trans k2 k
    ·constructor
     ·rcases mx_cases (mn a b) (mn c d) with ⟨e, k⟩ | ⟨e, k⟩ <;> rw [e] at k1
      ·exact k1
      ·exact le_trans k k1
     ·rcases mn_cases (mx a b) (mx c d) with ⟨e, k⟩ | ⟨e, k⟩ <;> rw [e] at k2
      ·exact le_trans k2 k
      ·exact k2
  have mL : mx (mn a b) (mn c d) ∈ [a, b, c, d] := by
   rcases mx_cases (mn a b) (mn c d) with ⟨e, _⟩ | ⟨e, _⟩ <;> rw [e]
   ·rcases mn_cases c d with ⟨e, _⟩ | ⟨e, _⟩ <;> rw [e] <;> simp
   ·rcases mn_cases a b with ⟨e, _⟩ | ⟨e, _⟩ <;> rw [e] <;> simp
  have mH : mn (mx a b) (mx c d) ∈ [a, b, c, d] := by
   rcases mn_cases (mx a b) (mx c d) with ⟨e, _⟩ | ⟨e, _⟩ <;> rw [e]
   ·rcases mx_cases a b with ⟨e, _⟩ | ⟨e, _⟩ <;> rw [e] <;> simp
   ·rcases mx_cases c d with ⟨e, _⟩ | ⟨e, _⟩ <;> rw [e] <;> simp
  unfold colP
  generalize mx (mn a b) (mn c d) = lo at *
  generalize mn (mx a b) (mx c d) = hi at *
  dsimp only
  by_cases he : lo = hi
  ·rw [if_pos he]
   subst he
   exact (meetL_one mL ((hC lo mL).2 ⟨le_refl _, le_refl _⟩) fun x hx hb => (le_antisymm ((hC x hx).1 hb).1 ((hC x hx).1 hb).2).symm).symm
  ·rw [if_neg he]
   by_cases hl : le lo hi
   ·rw [if_pos hl]
    exact (meetL_two mL ((hC lo mL).2 ⟨le_refl _, hl⟩) mH ((hC hi mH).2 ⟨hl, le_refl _⟩) he).symm
   ·rw [if_neg hl, meetL_none fun x hx hb => hl (le_trans ((hC x hx).1 hb).1 ((hC x hx).1 hb).2), u0, Rat.zero_mul, if_pos (.inl Rat.le_refl)]
 ·rw [if_neg h0]
  have side : ∀ {a b c d x : Pt}, 0 < ar a b c * ar a b d → btw c d x → ar a b x ≠ 0 := by
   intro a b c d x hp hb he
   obtain ⟨t, t0, t1, e1, e2⟩ := btw_onS.1 hb
   have hx : x = (c.1 + t * (d.1 - c.1), c.2 + t * (d.2 - c.2)) := Prod.ext e1 e2
   rw [hx, ar_line] at he
   generalize ar a b c = p at *
   generalize ar a b d = q at *
   -- multiply by p
   have k1 : (1 - t) * (p * p) + t * (p * q) = 0 := by grind
   have hpp : 0 < p * p := by
    have hpn : p ≠ 0 := fun h => by rw [h, Rat.zero_mul] at hp; grind
    rcases Rat.le_total (a := 0) (b := p) with h3 | h3
    ·exact Rat.mul_pos (by grind) (by grind)
    ·have := Rat.mul_pos (show 0 < -p by grind) (show 0 < -p by grind)
     grind
   have k2 := Rat.mul_nonneg (show 0 ≤ 1 - t by grind) (show 0 ≤ p * p by grind)
   have k3 := Rat.mul_nonneg t0 (show 0 ≤ p * q by grind)
   by_cases ht : t = 0
   ·subst ht; grind
   ·have := Rat.mul_pos (show 0 < t by grind) hp
    grind
  by_cases h1 : 0 < ar a b c * ar a b d ∨ 0 < ar c d a * ar c d b
  ·rw [if_pos h1, meetL_none fun x hx ⟨k1, k2⟩ => h1.elim (fun h => side h k2 k1.1) (fun h => side h k1 k2.1), if_pos (h1.elim (fun h => .inr (by grind)) (fun h => .inl (by grind)))]
  ·rw [if_neg h1]
   have h2 : ¬0 < ar a b c * ar a b d := fun h => h1 (.inl h)
   have h3 : ¬0 < ar c d a * ar c d b := fun h => h1 (.inr h)
   obtain ⟨hne, t0, t1⟩ := rat_sgn h2 h0
   have huv : ar c d a - ar c d b = -(ar a b c - ar a b d) := by unfold ar; grind
   obtain ⟨hne', s0, s1⟩ := rat_sgn h3 (fun h => hne (by grind))
   have hz : atK c d (ar a b c) (ar a b d) = atK a b (ar c d a) (ar c d b) := by
    unfold atK
    have e1 : ar a b c / (ar a b c - ar a b d) * (ar a b c - ar a b d) = ar a b c := by grind
    have e2 : ar c d a / (ar c d a - ar c d b) * (ar c d a - ar c d b) = ar c d a := by grind
    generalize ar a b c / (ar a b c - ar a b d) = t at *
    generalize ar c d a / (ar c d a - ar c d b) = s at *
    generalize hD : ar a b c - ar a b d = D at *
    have k1 : (c.1 + t * (d.1 - c.1) - (a.1 + s * (b.1 - a.1))) * D = 0 := by
     have : (c.1 + t * (d.1 - c.1) - (a.1 + s * (b.1 - a.1))) * D = (c.1 - a.1) * D + (t * D) * (d.1 - c.1) - (s * D) * (b.1 - a.1) := by grind
     rw [this, e1]
     have : s * D = -ar c d a := by grind
     rw [this, ← hD]
     unfold ar; grind
    have k2 : (c.2 + t * (d.2 - c.2) - (a.2 + s * (b.2 - a.2))) * D = 0 := by
     have : (c.2 + t * (d.2 - c.2) - (a.2 + s * (b.2 - a.2))) * D = (c.2 - a.2) * D + (t * D) * (d.2 - c.2) - (s * D) * (b.2 - a.2) := by grind
     rw [this, e1]
     have : s * D = -ar c d a := by grind
     rw [this, ← hD]
     unfold ar; grind
    have m1 := (Rat.mul_eq_zero.1 k1).resolve_right hne
    have m2 := (Rat.mul_eq_zero.1 k2).resolve_right hne
    exact Prod.ext (by show c.1 + t * (d.1 - c.1) = a.1 + s * (b.1 - a.1); grind) (by show c.2 + t * (d.2 - c.2) = a.2 + s * (b.2 - a.2); grind)
   have c1 : btw c d (atK c d (ar a b c) (ar a b d)) := btw_onS.2 ⟨_, t0, t1, rfl, rfl⟩
   have c2 : btw a b (atK c d (ar a b c) (ar a b d)) := by rw [hz]; exact btw_onS.2 ⟨_, s0, s1, rfl, rfl⟩
   have uniq : ∀ x, btw a b x ∧ btw c d x → x = atK c d (ar a b c) (ar a b d) := by
    rintro x ⟨k1, k2⟩
    obtain ⟨t, _, _, e1, e2⟩ := btw_onS.1 k2
    have hx : x = (c.1 + t * (d.1 - c.1), c.2 + t * (d.2 - c.2)) := Prod.ext e1 e2
    have k3 := k1.1
    rw [hx, ar_line] at k3
    have ht : t = ar a b c / (ar a b c - ar a b d) := by
     have e : ar a b c / (ar a b c - ar a b d) * (ar a b c - ar a b d) = ar a b c := by grind
     generalize ar a b c / (ar a b c - ar a b d) = s at *
     have : (t - s) * (ar a b c - ar a b d) = 0 := by grind
     have := (Rat.mul_eq_zero.1 this).resolve_right hne
     grind
    rw [hx, ht]; rfl
   have ends : (ar a b c = 0 → atK c d (ar a b c) (ar a b d) = c) ∧ (ar a b d = 0 → atK c d (ar a b c) (ar a b d) = d) := by
    constructor
    ·intro h
     unfold atK
     rw [h]
     exact Prod.ext (by show c.1 + 0 / _ * _ = c.1; grind) (by show c.2 + 0 / _ * _ = c.2; grind)
    ·intro h
     unfold atK
     have e : ar a b c / (ar a b c - ar a b d) = 1 := by rw [h] at hne ⊢; grind
     rw [e]
     exact Prod.ext (by show c.1 + 1 * _ = d.1; grind) (by show c.2 + 1 * _ = d.2; grind)
   have ends' : (ar c d a = 0 → atK c d (ar a b c) (ar a b d) = a) ∧ (ar c d b = 0 → atK c d (ar a b c) (ar a b d) = b) := by
    rw [hz]
    constructor
    ·intro h
     unfold atK
     rw [h]
     exact Prod.ext (by show a.1 + 0 / _ * _ = a.1; grind) (by show a.2 + 0 / _ * _ = a.2; grind)
    ·intro h
     unfold atK
     have e : ar c d a / (ar c d a - ar c d b) = 1 := by rw [h] at hne' ⊢; grind
     rw [e]
     exact Prod.ext (by show a.1 + 1 * _ = b.1; grind) (by show a.2 + 1 * _ = b.2; grind)
   by_cases hm : atK c d (ar a b c) (ar a b d) ∈ [a, b, c, d]
   ·exact (meetL_one hm ⟨c2, c1⟩ fun x _ h => uniq x h).symm
   ·have n1 : ar a b c ≠ 0 := fun h => hm (by rw [ends.1 h]; simp)
    have n2 : ar a b d ≠ 0 := fun h => hm (by rw [ends.2 h]; simp)
    have n3 : ar c d a ≠ 0 := fun h => hm (by rw [ends'.1 h]; simp)
    have n4 : ar c d b ≠ 0 := fun h => hm (by rw [ends'.2 h]; simp)
    rw [meetL_none fun x hx h => hm (by rw [← uniq x h]; exact hx), if_neg, hz]
    rintro (h | h)
    ·rcases Rat.mul_eq_zero.1 (Rat.le_antisymm (Rat.not_lt.1 h3) h) with h | h
     ·exact n3 h
     ·exact n4 h
    ·rcases Rat.mul_eq_zero.1 (Rat.le_antisymm (Rat.not_lt.1 h2) h) with h | h
     ·exact n1 h
     ·exact n2 h
end Go.Ge
