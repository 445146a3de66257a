/-
  slices.Repeat of vectors, in the plain walk. Own work.
-/
import Derived.Test.YtidmnjnhccoblaaGreatDoorEg
import Derived.Test.YtidmnjnhccoblaaGreatDoorEd
import Derived.Shelf.RegionOpenPlain
import Derived.Deep.RegionHeld3
import Derived.Deep.LoopGhost
import Derived.OwnWalk
import Derived.Test.YtidmnjnhccoblaaGreatDoorEa
set_option linter.unusedVariables false
set_option linter.unusedSimpArgs false
namespace Go.Pi
open Go Go.RowKit
end Go.Pi
namespace Go.Proofs
open Go Go.Pi Go.RowKit Go.Shelf

end Go.Proofs

/-
  DIRECTIONS ON A NET: multiples of a root compared with numbers; the greatest place that is reached. Own work.
-/
namespace Go.Ne

theorem sqle {x y : Rat} (hx : 0 ≤ x) (hy : 0 ≤ y) : x * x ≤ y * y ↔ x ≤ y := by
  constructor
  · intro h
    refine Rat.not_lt.1 fun h' => ?_
    have p1 := Rat.mul_pos (show 0 < x - y by grind) (show 0 < x - y by grind)
    have p2 := Rat.mul_nonneg hy (show 0 ≤ x - y by grind)
    grind
  · intro h
    have p1 := Rat.mul_nonneg hx (show 0 ≤ y - x by grind)
    have p2 := Rat.mul_nonneg hy (show 0 ≤ y - x by grind)
    grind
/-- a times the root of s is at most b -/
def rle (a s b : Rat) : Prop := if 0 ≤ a then 0 ≤ b ∧ a * a * s ≤ b * b else 0 ≤ b ∨ b * b ≤ a * a * s
instance (a s b : Rat) : Decidable (rle a s b) := by unfold rle; infer_instance
theorem rle_pos {a s b : Rat} (ha : 0 ≤ a) : rle a s b ↔ 0 ≤ b ∧ a * a * s ≤ b * b := by unfold rle; rw [if_pos ha]
theorem rle_neg {a s b : Rat} (ha : a < 0) : rle a s b ↔ 0 ≤ b ∨ b * b ≤ a * a * s := by unfold rle; rw [if_neg (Rat.not_le.2 ha)]
theorem up {a b c d s : Rat} (ha : 0 ≤ a) (hb : 0 ≤ b) (hc : 0 ≤ c) (hd : 0 ≤ d) (hs : 0 ≤ s) (h : a * a * s ≤ b * b) (k : c * c * s ≤ d * d) : a * c * s ≤ b * d := by
  refine (sqle (Rat.mul_nonneg (Rat.mul_nonneg ha hc) hs) (Rat.mul_nonneg hb hd)).1 ?_
  have p1 := Rat.mul_nonneg (show 0 ≤ b * b - a * a * s by grind) (show 0 ≤ d * d by exact Rat.mul_nonneg hd hd)
  have p2 := Rat.mul_nonneg (show 0 ≤ d * d - c * c * s by grind) (show 0 ≤ a * a * s by exact Rat.mul_nonneg (Rat.mul_nonneg ha ha) hs)
  grind
theorem down {a b c d s : Rat} (ha : 0 ≤ a) (hb : 0 ≤ b) (hc : 0 ≤ c) (hd : 0 ≤ d) (hs : 0 ≤ s) (h : b * b ≤ a * a * s) (k : d * d ≤ c * c * s) : b * d ≤ a * c * s := by
  refine (sqle (Rat.mul_nonneg hb hd) (Rat.mul_nonneg (Rat.mul_nonneg ha hc) hs)).1 ?_
  have p1 := Rat.mul_nonneg (show 0 ≤ a * a * s - b * b by grind) (show 0 ≤ d * d by exact Rat.mul_nonneg hd hd)
  have p2 := Rat.mul_nonneg (show 0 ≤ c * c * s - d * d by grind) (show 0 ≤ a * a * s by exact Rat.mul_nonneg (Rat.mul_nonneg ha ha) hs)
  grind
/-- sums -/
theorem rle_add {a b c d s : Rat} (hs : 0 ≤ s) (h : rle a s b) (k : rle c s d) : rle (a + c) s (b + d) := by
  have main : ∀ {a b c d : Rat}, 0 ≤ a → c < 0 → rle a s b → rle c s d → rle (a + c) s (b + d) := by
    intro a b c d ha hc h k
    obtain ⟨h1, h2⟩ := (rle_pos ha).1 h
    have k' := (rle_neg hc).1 k
    by_cases hd : 0 ≤ d
    · by_cases hac : 0 ≤ a + c
      · refine (rle_pos hac).2 ⟨by grind, ?_⟩
        have p1 := Rat.mul_nonneg (Rat.mul_nonneg (show 0 ≤ -c by grind) (show 0 ≤ a + (a + c) by grind)) hs
        have p2 := Rat.mul_nonneg hd (show 0 ≤ b + (b + d) by grind)
        grind
      · exact (rle_neg (Rat.not_le.1 hac)).2 (.inl (by grind))
    · have hd' := Rat.not_le.1 hd
      have k2 : d * d ≤ c * c * s := k'.resolve_left hd
      by_cases hac : 0 ≤ a + c
      · have hbd : 0 ≤ b + d := by
          have p1 := Rat.mul_nonneg (Rat.mul_nonneg (show 0 ≤ a + c by grind) (show 0 ≤ a - c by grind)) hs
          have := (sqle (show 0 ≤ -d by grind) h1).1 (by grind)
          grind
        refine (rle_pos hac).2 ⟨hbd, Rat.not_lt.1 fun hn => ?_⟩
        have p := down (a := a + c) (b := b + d) (c := -c) (d := -d) hac hbd (by grind) (by grind) hs (Rat.le_of_lt hn) (by grind)
        grind
      · refine (rle_neg (Rat.not_le.1 hac)).2 ?_
        by_cases hbd : 0 ≤ b + d
        · exact .inl hbd
        · refine .inr (Rat.not_lt.1 fun hn => ?_)
          have p := up (a := -(a + c)) (b := -(b + d)) (c := a) (d := b) (by grind) (by grind) ha h1 hs (by have := Rat.le_of_lt hn; grind) h2
          grind
  by_cases ha : 0 ≤ a
  · by_cases hc : 0 ≤ c
    · obtain ⟨h1, h2⟩ := (rle_pos ha).1 h
      obtain ⟨k1, k2⟩ := (rle_pos hc).1 k
      refine (rle_pos (by grind)).2 ⟨by grind, ?_⟩
      have := up ha h1 hc k1 hs h2 k2
      grind
    · exact main ha (Rat.not_le.1 hc) h k
  · by_cases hc : 0 ≤ c
    · have := main hc (Rat.not_le.1 ha) k h
      rwa [Rat.add_comm c, Rat.add_comm d] at this
    · have ha' := Rat.not_le.1 ha
      have hc' := Rat.not_le.1 hc
      have h' := (rle_neg ha').1 h
      have k' := (rle_neg hc').1 k
      refine (rle_neg (by grind)).2 ?_
      have pa := Rat.mul_nonneg (Rat.mul_nonneg (show 0 ≤ -a by grind) (show 0 ≤ -c by grind)) hs
      have pb := Rat.mul_nonneg (Rat.mul_nonneg (show 0 ≤ -a by grind) (show 0 ≤ -a by grind)) hs
      have pc := Rat.mul_nonneg (Rat.mul_nonneg (show 0 ≤ -c by grind) (show 0 ≤ -c by grind)) hs
      by_cases hb : 0 ≤ b
      · by_cases hd : 0 ≤ d
        · exact .inl (by grind)
        · have k2 := k'.resolve_left hd
          by_cases hbd : 0 ≤ b + d
          · exact .inl hbd
          · have q := (sqle (show 0 ≤ -(b + d) by grind) (show 0 ≤ -d by grind)).2 (by grind)
            exact .inr (by grind)
      · have h2 := h'.resolve_left hb
        by_cases hd : 0 ≤ d
        · by_cases hbd : 0 ≤ b + d
          · exact .inl hbd
          · have q := (sqle (show 0 ≤ -(b + d) by grind) (show 0 ≤ -b by grind)).2 (by grind)
            exact .inr (by grind)
        · have k2 := k'.resolve_left hd
          have p := down (a := -a) (b := -b) (c := -c) (d := -d) (by grind) (by grind) (by grind) (by grind) hs (by grind) (by grind)
          exact .inr (by grind)
theorem rle_easy {a s b : Rat} (ha : a ≤ 0) (hb : 0 ≤ b) : rle a s b := by
  by_cases h : 0 ≤ a
  · have : a = 0 := by grind
    subst this
    refine (rle_pos h).2 ⟨hb, ?_⟩
    have := Rat.mul_nonneg hb hb
    grind
  · exact (rle_neg (Rat.not_le.1 h)).2 (.inl hb)
/-- the same in a greater scale -/
theorem rle_scale {a s b t : Rat} (ht : 0 < t) : rle (t * a) s (t * b) ↔ rle a s b := by
  have tn : 0 ≤ t := Rat.le_of_lt ht
  have tt := Rat.mul_pos ht ht
  have key : ∀ x : Rat, 0 ≤ t * x ↔ 0 ≤ x := fun x => by
    constructor
    · intro h
      refine Rat.not_lt.1 fun h' => ?_
      have := Rat.mul_pos ht (show 0 < -x by grind)
      grind
    · exact Rat.mul_nonneg tn
  have key2 : ∀ x y : Rat, t * t * x ≤ t * t * y ↔ x ≤ y := fun x y => by
    constructor
    · intro h
      refine Rat.not_lt.1 fun h' => ?_
      have := Rat.mul_pos tt (show 0 < x - y by grind)
      grind
    · intro h
      have := Rat.mul_nonneg (Rat.le_of_lt tt) (show 0 ≤ y - x by grind)
      grind
  have e1 : t * a * (t * a) * s = t * t * (a * a * s) := by grind
  have e2 : t * b * (t * b) = t * t * (b * b) := by grind
  unfold rle
  rw [e1, e2]
  simp only [key, key2]
theorem rle_root {a s b t : Rat} (ht : 0 < t) : rle a (t * t * s) b ↔ rle (t * a) s b := by
  have key : 0 ≤ t * a ↔ 0 ≤ a := by
    constructor
    · intro h
      refine Rat.not_lt.1 fun h' => ?_
      have := Rat.mul_pos ht (show 0 < -a by grind)
      grind
    · exact Rat.mul_nonneg (Rat.le_of_lt ht)
  have e1 : t * a * (t * a) * s = a * a * (t * t * s) := by grind
  unfold rle
  rw [e1]; simp only [key]
/-- the places of a direction: of the coordinate c, with the depth d and the square s of the length, on a net of the kind `area` with the radius R: a half of m is reached -/
def hitA (R c d s m : Rat) : Prop := rle m s (2 * R * c - m * d)
def hitB (R c d s m : Rat) : Prop :=
  if 0 ≤ m then 0 ≤ c ∧ rle (m * m * d) s (2 * R * c * (2 * R * c) - m * m * s) else 0 ≤ c ∨ rle (-(m * m * d)) s (-(2 * R * c * (2 * R * c) - m * m * s))
def hit (area : Bool) (R c d s m : Rat) : Prop := if area then hitB R c d s m else hitA R c d s m
instance (R c d s m : Rat) : Decidable (hitA R c d s m) := by unfold hitA; infer_instance
instance (R c d s m : Rat) : Decidable (hitB R c d s m) := by unfold hitB; infer_instance
instance (area : Bool) (R c d s m : Rat) : Decidable (hit area R c d s m) := by unfold hit; infer_instance
theorem hitA_anti {R c d s m n : Rat} (hs : 0 ≤ s) (hd : 0 ≤ d) (h : hitA R c d s m) (hn : n ≤ m) : hitA R c d s n := by
  unfold hitA at *
  have := rle_add hs h (rle_easy (s := s) (a := n - m) (b := (m - n) * d) (by grind) (Rat.mul_nonneg (by grind) hd))
  have e1 : m + (n - m) = n := by grind
  have e2 : 2 * R * c - m * d + (m - n) * d = 2 * R * c - n * d := by grind
  rwa [e1, e2] at this
theorem hitB_anti {R c d s m n : Rat} (hs : 0 ≤ s) (hd : 0 ≤ d) (h : hitB R c d s m) (hn : n ≤ m) : hitB R c d s n := by
  unfold hitB at *
  by_cases h0 : 0 ≤ n
  · rw [if_pos (show 0 ≤ m by grind)] at h
    rw [if_pos h0]
    refine ⟨h.1, ?_⟩
    have p := (sqle h0 (show 0 ≤ m by grind)).2 hn
    have := rle_add hs h.2 (rle_easy (s := s) (a := -((m * m - n * n) * d)) (b := (m * m - n * n) * s) (by have := Rat.mul_nonneg (show 0 ≤ m * m - n * n by grind) hd; grind) (Rat.mul_nonneg (by grind) hs))
    have e1 : m * m * d + -((m * m - n * n) * d) = n * n * d := by grind
    have e2 : 2 * R * c * (2 * R * c) - m * m * s + (m * m - n * n) * s = 2 * R * c * (2 * R * c) - n * n * s := by grind
    rwa [e1, e2] at this
  · rw [if_neg h0]
    by_cases h1 : 0 ≤ m
    · rw [if_pos h1] at h; exact .inl h.1
    · rw [if_neg h1] at h
      rcases h with h | h
      · exact .inl h
      · refine .inr ?_
        have p := (sqle (show 0 ≤ -m by grind) (show 0 ≤ -n by grind)).2 (by grind)
        have := rle_add hs h (rle_easy (s := s) (a := -((n * n - m * m) * d)) (b := (n * n - m * m) * s) (by have := Rat.mul_nonneg (show 0 ≤ n * n - m * m by grind) hd; grind) (Rat.mul_nonneg (by grind) hs))
        have e1 : -(m * m * d) + -((n * n - m * m) * d) = -(n * n * d) := by grind
        have e2 : -(2 * R * c * (2 * R * c) - m * m * s) + (n * n - m * m) * s = -(2 * R * c * (2 * R * c) - n * n * s) := by grind
        rwa [e1, e2] at this
theorem hit_anti {area : Bool} {R c d s m n : Rat} (hs : 0 ≤ s) (hd : 0 ≤ d) (h : hit area R c d s m) (hn : n ≤ m) : hit area R c d s n := by
  cases area
  · exact hitA_anti hs hd h hn
  · exact hitB_anti hs hd h hn
theorem rle_unit {s c : Rat} (hc : c * c ≤ s) : rle (-1) s c := (rle_neg (by grind)).2 (by by_cases h : 0 ≤ c <;> grind)
/-- the least place is reached -/
theorem hit_least {area : Bool} {R c d s : Rat} (hR : 0 ≤ R) (hc : c * c ≤ s) (hd : 0 ≤ d) : hit area R c d s (-(2 * R) - 1) := by
  have hs : 0 ≤ s := by
    have : 0 ≤ c * c := by
      rcases Rat.le_total (a := 0) (b := c) with h | h
      · exact Rat.mul_nonneg h h
      · have := Rat.mul_nonneg (show 0 ≤ -c by grind) (show 0 ≤ -c by grind); grind
    grind
  cases area
  · show rle _ _ _
    have hm := Rat.mul_nonneg (show 0 ≤ 2 * R + 1 by grind) hd
    have h1 : rle (-(2 * R)) s (2 * R * c) := by
      by_cases h : 0 < R
      · have := (rle_scale (t := 2 * R) (by grind)).2 (rle_unit hc)
        have e : 2 * R * -1 = -(2 * R) := by grind
        rwa [e] at this
      · have h0 : R = 0 := by grind
        exact rle_easy (by grind) (by rw [h0]; grind)
    have := rle_add hs h1 (rle_easy (s := s) (a := -1) (b := (2 * R + 1) * d) (by grind) hm)
    have e1 : -(2 * R) + -1 = -(2 * R) - 1 := by grind
    have e2 : 2 * R * c + (2 * R + 1) * d = 2 * R * c - (-(2 * R) - 1) * d := by grind
    rwa [e1, e2] at this
  · show hitB _ _ _ _ _
    unfold hitB
    rw [if_neg (by grind)]
    refine .inr (rle_easy ?_ ?_)
    · have := Rat.mul_nonneg (Rat.mul_nonneg (show 0 ≤ 2 * R + 1 by grind) (show 0 ≤ 2 * R + 1 by grind)) hd
      grind
    · have p1 := Rat.mul_nonneg (Rat.mul_nonneg hR hR) (show 0 ≤ s - c * c by grind)
      have p2 := Rat.mul_nonneg hR hs
      grind
/-- a direction in another scale -/
theorem hit_scale {area : Bool} {R c d s m t : Rat} (ht : 0 < t) : hit area R (t * c) (t * d) (t * t * s) m ↔ hit area R c d s m := by
  have tt := Rat.mul_pos ht ht
  have key : 0 ≤ t * c ↔ 0 ≤ c := by
    constructor
    · intro h
      refine Rat.not_lt.1 fun h' => ?_
      have := Rat.mul_pos ht (show 0 < -c by grind)
      grind
    · exact Rat.mul_nonneg (Rat.le_of_lt ht)
  cases area
  · show rle _ _ _ ↔ rle _ _ _
    rw [rle_root ht, show 2 * R * (t * c) - m * (t * d) = t * (2 * R * c - m * d) by grind, rle_scale ht]
  · show hitB _ _ _ _ _ ↔ hitB _ _ _ _ _
    unfold hitB
    rw [key, rle_root ht, rle_root ht, show t * (m * m * (t * d)) = t * t * (m * m * d) by grind, show t * -(m * m * (t * d)) = t * t * -(m * m * d) by grind,
      show 2 * R * (t * c) * (2 * R * (t * c)) - m * m * (t * t * s) = t * t * (2 * R * c * (2 * R * c) - m * m * s) by grind,
      show -(t * t * (2 * R * c * (2 * R * c) - m * m * s)) = t * t * -(2 * R * c * (2 * R * c) - m * m * s) by grind, rle_scale tt, rle_scale tt]
/-- the greatest of low .. low + n that a downward closed test holds for -/
def best (p : Int → Bool) (low : Int) : Nat → Int
  | 0 => low
  | n + 1 => if p (low + (n + 1 : Nat)) then low + (n + 1 : Nat) else best p low n
theorem best_ge (p : Int → Bool) (low : Int) : ∀ n, low ≤ best p low n ∧ best p low n ≤ low + n
  | 0 => by simp [best]
  | n + 1 => by
    have := best_ge p low n
    simp only [best]; split <;> omega
theorem best_iff {p : Int → Bool} {low : Int} (hl : p low = true) (hp : ∀ i k, i ≤ k → p k = true → p i = true) : ∀ (n : Nat) (k : Int), low ≤ k → k ≤ low + n → (p k = true ↔ k ≤ best p low n)
  | 0, k, h1, h2 => by
    have : k = low := by omega
    subst this
    simp [best, hl]
  | n + 1, k, h1, h2 => by
    simp only [best]
    split
    · rename_i h
      exact ⟨fun _ => h2, fun _ => hp _ _ h2 h⟩
    · rename_i h
      by_cases hk : k = low + (n + 1 : Nat)
      · subst hk
        have := best_ge p low n
        exact ⟨fun h' => absurd h' h, fun h' => by omega⟩
      · exact best_iff hl hp n k h1 (by omega)
/-- the pixel of a coordinate -/
def pix (area : Bool) (R : Nat) (c d s : Rat) : Int := best (fun k => decide (hit area R c d s (2 * k - 1 : Int))) (-(R : Int)) (2 * R)
theorem pix_iff {area : Bool} {R : Nat} {c d s : Rat} (hc : c * c ≤ s) (hd : 0 ≤ d) {k : Int} (h1 : -(R : Int) ≤ k) (h2 : k ≤ R) : hit area R c d s ((2 * k - 1 : Int) : Rat) ↔ k ≤ pix area R c d s := by
  have hs : 0 ≤ s := by
    have : 0 ≤ c * c := by
      rcases Rat.le_total (a := 0) (b := c) with h | h
      · exact Rat.mul_nonneg h h
      · have := Rat.mul_nonneg (show 0 ≤ -c by grind) (show 0 ≤ -c by grind); grind
    grind
  have := best_iff (p := fun k => decide (hit area R c d s (2 * k - 1 : Int))) (low := -(R : Int)) ?_ ?_ (2 * R) k h1 (by omega)
  · rw [decide_eq_true_iff] at this; exact this
  · rw [decide_eq_true_iff]
    have := hit_least (area := area) (R := (R : Rat)) Rat.natCast_nonneg hc hd
    have e : ((2 * -(R : Int) - 1 : Int) : Rat) = -(2 * (R : Rat)) - 1 := by
      rw [Rat.intCast_sub, Rat.intCast_mul, Rat.intCast_neg]; simp only [Rat.intCast_natCast]; grind
    rw [e]; exact this
  · intro i k h h'
    rw [decide_eq_true_iff] at *
    exact hit_anti hs hd h' (Rat.intCast_le_intCast.2 (by omega))
theorem pix_ge {area : Bool} {R : Nat} {c d s : Rat} : -(R : Int) ≤ pix area R c d s ∧ pix area R c d s ≤ R := by
  have := best_ge (fun k => decide (hit area R c d s (2 * k - 1 : Int))) (-(R : Int)) (2 * R)
  unfold pix; omega
theorem pix_scale {area : Bool} {R : Nat} {c d s t : Rat} (ht : 0 < t) : pix area R (t * c) (t * d) (t * t * s) = pix area R c d s := by
  unfold pix
  congr 1
  funext k
  exact decide_eq_decide.2 (hit_scale ht)
end Go.Ne

/-
  DIRECTIONS ON A NET: the program's test and the law's test are the same; vectors of three numbers. Own work.
-/
namespace Go.Ne

abbrev V3 := Rat × Rat × Rat
def dot3 (a b : V3) : Rat := a.1 * b.1 + a.2.1 * b.2.1 + a.2.2 * b.2.2
def sc3 (a : V3) (k : Rat) : V3 := (a.1 * k, a.2.1 * k, a.2.2 * k)
def add3 (a b : V3) : V3 := (a.1 + b.1, a.2.1 + b.2.1, a.2.2 + b.2.2)
def crs3 (a b : V3) : V3 := (a.2.1 * b.2.2 - a.2.2 * b.2.1, a.2.2 * b.1 - a.1 * b.2.2, a.1 * b.2.1 - a.2.1 * b.1)
def zer3 (a : V3) : Bool := decide (a = (0, 0, 0))
def low3 (v : V3) : V3 := if 0 < v.2.2 then sc3 v (-1) else v
theorem sq_nonneg (x : Rat) : 0 ≤ x * x := by
  rcases Rat.le_total (a := 0) (b := x) with h | h
  · exact Rat.mul_nonneg h h
  · have := Rat.mul_nonneg (show 0 ≤ -x by grind) (show 0 ≤ -x by grind); grind
theorem dot_nonneg (v : V3) : 0 ≤ dot3 v v := by
  have := sq_nonneg v.1; have := sq_nonneg v.2.1; have := sq_nonneg v.2.2
  unfold dot3; grind
theorem dot_ge1 (v : V3) : v.1 * v.1 ≤ dot3 v v := by
  have := sq_nonneg v.2.1; have := sq_nonneg v.2.2
  unfold dot3; grind
theorem dot_ge2 (v : V3) : v.2.1 * v.2.1 ≤ dot3 v v := by
  have := sq_nonneg v.1; have := sq_nonneg v.2.2
  unfold dot3; grind
theorem low_z (v : V3) : 0 ≤ -(low3 v).2.2 := by
  unfold low3 sc3; split
  · show 0 ≤ -(v.2.2 * -1); grind
  · rename_i h; have := Rat.not_lt.1 h; grind
/-- the program's test: for a half of h -/
def reachP (area : Bool) (R x z s h : Rat) : Bool :=
  if area then
    (if 0 ≤ h then decide (0 ≤ x * R) && decide (rle (-(h * h * z)) s (x * R * (x * R) - h * h * s)) else decide (0 ≤ x * R) || decide (rle (-(-(h * h * z))) s (-(x * R * (x * R) - h * h * s))))
  else decide (rle h s (x * R + h * z))
theorem reachP_hit {area : Bool} {R x z s h : Rat} (hR : 0 < R) : reachP area R x z s h = decide (hit area R x (-z) s (2 * h)) := by
  have key : 0 ≤ x * R ↔ 0 ≤ x := by
    constructor
    · intro h
      refine Rat.not_lt.1 fun h' => ?_
      have := Rat.mul_pos (show 0 < -x by grind) hR
      grind
    · exact fun h => Rat.mul_nonneg h (Rat.le_of_lt hR)
  have key2 : 0 ≤ 2 * h ↔ 0 ≤ h := by constructor <;> intro _ <;> grind
  cases area
  · show decide (rle _ _ _) = decide (rle _ _ _)
    refine decide_eq_decide.2 ?_
    rw [show 2 * R * x - 2 * h * -z = 2 * (x * R + h * z) by grind]
    exact (rle_scale (by decide)).symm
  · show _ = decide (hitB _ _ _ _ _)
    unfold reachP hitB
    simp only [if_true, key2]
    have e1 : 2 * h * (2 * h) * -z = 4 * -(h * h * z) := by grind
    have e2 : 2 * R * x * (2 * R * x) - 2 * h * (2 * h) * s = 4 * (x * R * (x * R) - h * h * s) := by grind
    have e3 : -(4 * -(h * h * z)) = 4 * -(-(h * h * z)) := by grind
    have e4 : -(4 * (x * R * (x * R) - h * h * s)) = 4 * -(x * R * (x * R) - h * h * s) := by grind
    by_cases h0 : 0 ≤ h
    · have := rle_scale (a := -(h * h * z)) (s := s) (b := x * R * (x * R) - h * h * s) (t := 4) (by decide)
      rw [if_pos h0, Bool.eq_iff_iff]
      simp only [Bool.and_eq_true, decide_eq_true_eq]
      rw [if_pos h0, e1, e2, key, this]
    · have := rle_scale (a := -(-(h * h * z))) (s := s) (b := -(x * R * (x * R) - h * h * s)) (t := 4) (by decide)
      rw [if_neg h0, Bool.eq_iff_iff]
      simp only [Bool.or_eq_true, decide_eq_true_eq]
      rw [if_neg h0, e1, e2, e3, e4, key, this]
/-- the law's words for a multiple of a root -/
def atM (a s b : Rat) : Bool := if a ≤ 0 ∧ 0 ≤ b then true else if 0 ≤ a ∧ b < 0 then false else if 0 < a then decide (a * a * s ≤ b * b) else decide (b * b ≤ a * a * s)
/-- the law's test -/
def reachL (area : Bool) (R c d s m : Rat) : Bool :=
  if area then
    (if m ≤ 0 ∧ 0 ≤ 2 * R * c then true else if 0 ≤ m ∧ 2 * R * c < 0 then false
      else if 0 < m then decide (rle (m * m * d) s (2 * R * c * (2 * R * c) - m * m * s)) else decide (rle (-(m * m * d)) s (-(2 * R * c * (2 * R * c) - m * m * s))))
  else decide (rle m s (2 * R * c - m * d))
/-- the pixel of a direction -/
def pixV (area : Bool) (R : Nat) (v : V3) : Int × Int :=
  (pix area R (low3 v).1 (-(low3 v).2.2) (dot3 (low3 v) (low3 v)), pix area R (low3 v).2.1 (-(low3 v).2.2) (dot3 (low3 v) (low3 v)))
theorem low_scale {v : V3} {t : Rat} (ht : 0 < t) : low3 (sc3 v t) = sc3 (low3 v) t := by
  have key : 0 < v.2.2 * t ↔ 0 < v.2.2 := by
    constructor
    · intro h
      refine Rat.not_le.1 fun h' => ?_
      have := Rat.mul_nonneg (show 0 ≤ -v.2.2 by grind) (Rat.le_of_lt ht)
      grind
    · exact fun h => Rat.mul_pos h ht
  have e : (sc3 v t).2.2 = v.2.2 * t := rfl
  unfold low3
  rw [e]
  simp only [key]
  split
  · unfold sc3; ext <;> simp only [] <;> grind
  · rfl
theorem pixV_scale {area : Bool} {R : Nat} {v : V3} {t : Rat} (ht : 0 < t) : pixV area R (sc3 v t) = pixV area R v := by
  unfold pixV
  rw [low_scale ht]
  generalize low3 v = w
  have e0 : dot3 (sc3 w t) (sc3 w t) = t * t * dot3 w w := by unfold dot3 sc3; grind
  have e1 : (sc3 w t).1 = t * w.1 := by unfold sc3; grind
  have e2 : (sc3 w t).2.1 = t * w.2.1 := by unfold sc3; grind
  have e3 : -(sc3 w t).2.2 = t * -w.2.2 := by unfold sc3; grind
  rw [e0, e1, e2, e3, pix_scale ht, pix_scale ht]
theorem pixV_neg {area : Bool} {R : Nat} {v : V3} (hz : v.2.2 ≠ 0) : pixV area R (sc3 v (-1)) = pixV area R v := by
  have e : low3 (sc3 v (-1)) = low3 v := by
    unfold low3
    have e1 : (sc3 v (-1)).2.2 = v.2.2 * -1 := rfl
    rw [e1]
    by_cases h : 0 < v.2.2
    · rw [if_neg (by grind), if_pos h]
    · rw [if_pos (by grind), if_neg h]
      unfold sc3; ext <;> simp only [] <;> grind
  unfold pixV
  rw [e]
end Go.Ne
