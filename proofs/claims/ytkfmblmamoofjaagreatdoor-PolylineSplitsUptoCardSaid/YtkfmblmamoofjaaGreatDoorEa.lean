/-
 NUMBERS IN PIECES: lists of digits to a base, the least ahead; plain Lean, no program. Own work.
-/
set_option linter.unusedVariables false
set_option linter.unusedSimpArgs false
namespace Go.Ar

/-- the number of a list of pieces -/
def vl (B : Int) : List Int → Int
 | [] => 0
 | x :: r => x + B * vl B r
/-- pieces in their range -/
def isD (B : Int) (l : List Int) : Prop := ∀ x ∈ l, 0 ≤ x ∧ x < B
/-- zeros at the end are left out -/
def cutz : List Int → List Int
 | [] => []
 | x :: r => match cutz r with
   | [] => if x = 0 then [] else [x]
   | y :: q => x :: y :: q
/-- the pieces of a number -/
def dgs (B : Nat) (n : Nat) : List Int :=
 if h : n = 0 ∨ B < 2 then [] else ((n % B : Nat) : Int) :: dgs B (n / B)
termination_by n
decreasing_by exact Nat.div_lt_self (by omega) (by omega)

theorem dgs_zero (B : Nat) : dgs B 0 = [] := by rw [dgs]; simp
theorem dgs_pos {B n : Nat} (hB : 2 ≤ B) (hn : 0 < n) : dgs B n = ((n % B : Nat) : Int) :: dgs B (n / B) := by rw [dgs, dif_neg (by omega)]

theorem vl_append {B : Int} : ∀ (l m : List Int), vl B (l ++ m) = vl B l + B ^ l.length * vl B m
 | [], m => by simp [vl]
 | x :: l, m => by
   simp only [List.cons_append, vl, List.length_cons]
   rw [vl_append l m, Int.pow_succ, Int.mul_add, ← Int.mul_assoc, Int.mul_comm B (B ^ l.length), Int.add_assoc]
theorem vl_nonneg {B : Int} (hB : 0 ≤ B) : ∀ {l : List Int}, isD B l → 0 ≤ vl B l
 | [], _ => Int.le_refl _
 | x :: l, h => by
   have h1 := (h x (List.mem_cons_self ..)).1
   have h2 := vl_nonneg hB (l := l) fun y hy => h y (List.mem_cons_of_mem _ hy)
   have := Int.mul_nonneg hB h2
   simp only [vl]; omega
theorem vl_lt {B : Int} (hB : 1 ≤ B) : ∀ {l : List Int}, isD B l → vl B l < B ^ l.length
 | [], _ => by simp [vl]
 | x :: l, h => by
   have h1 := (h x (List.mem_cons_self ..)).2
   have h2 := vl_lt hB (l := l) fun y hy => h y (List.mem_cons_of_mem _ hy)
   simp only [vl, List.length_cons, Int.pow_succ]
   have h3 : B * (vl B l + 1) ≤ B * B ^ l.length := Int.mul_le_mul_of_nonneg_left (by omega) (by omega)
   rw [Int.mul_add, Int.mul_one] at h3
   rw [Int.mul_comm (B ^ l.length) B]
   omega
theorem cutz_vl {B : Int} : ∀ l : List Int, vl B (cutz l) = vl B l
 | [] => rfl
 | x :: r => by
   have ih := cutz_vl (B := B) r
   simp only [cutz]
   split
   ·rename_i h
    rw [h] at ih
    simp only [vl] at ih ⊢
    split
    ·rename_i h0; subst h0; simp only [vl, ← ih]; simp
    ·simp only [vl, ← ih]
   ·rename_i y q h
    rw [h] at ih
    simp only [vl] at ih ⊢
    rw [ih]
theorem cutz_mem : ∀ {l : List Int} {x : Int}, x ∈ cutz l → x ∈ l
 | [], x, h => h
 | y :: r, x, h => by
   simp only [cutz] at h
   split at h
   ·split at h
    ·cases h
    ·rw [List.mem_singleton] at h; subst h; exact List.mem_cons_self ..
   ·rename_i z q hq
    rcases List.mem_cons.1 h with rfl | h
    ·exact List.mem_cons_self ..
    ·exact List.mem_cons_of_mem _ (cutz_mem (by rw [hq]; exact h))
theorem cutz_isD {B : Int} {l : List Int} (h : isD B l) : isD B (cutz l) := fun x hx => h x (cutz_mem hx)
theorem cutz_length : ∀ l : List Int, (cutz l).length ≤ l.length
 | [] => Nat.le_refl _
 | x :: r => by
   have ih := cutz_length r
   simp only [cutz]
   split
   ·split <;> simp
   ·rename_i y q h
    rw [h] at ih
    simp only [List.length_cons] at ih ⊢
    omega
theorem cutz_snoc0 : ∀ l : List Int, cutz (l ++ [0]) = cutz l
 | [] => rfl
 | x :: r => by
   simp only [List.cons_append, cutz]
   rw [cutz_snoc0 r]
theorem cutz_snoc {x : Int} (hx : x ≠ 0) : ∀ l : List Int, cutz (l ++ [x]) = l ++ [x]
 | [] => by simp [cutz, hx]
 | y :: r => by
   simp only [List.cons_append, cutz]
   rw [cutz_snoc hx r]
   cases r <;> rfl

/-- THE PIECES OF A NUMBER ARE THOSE OF ITS VALUE -/
theorem cutz_eq {B : Nat} (hB : 2 ≤ B) : ∀ {l : List Int}, isD B l → cutz l = dgs B (vl B l).toNat
 | [], _ => by rw [show (vl (B : Int) []).toNat = 0 from rfl, dgs_zero]; rfl
 | x :: r, h => by
   have hx := h x (List.mem_cons_self ..)
   have hr : isD B r := fun y hy => h y (List.mem_cons_of_mem _ hy)
   have ih := cutz_eq hB hr
   have hn := vl_nonneg (by omega) hr
   obtain ⟨m, hm⟩ : ∃ m : Nat, vl (B : Int) r = m := ⟨(vl (B : Int) r).toNat, by omega⟩
   obtain ⟨k, hk⟩ : ∃ k : Nat, x = k := ⟨x.toNat, by omega⟩
   subst hk
   rw [hm, Int.toNat_natCast] at ih
   have e : vl (B : Int) ((k : Int) :: r) = ((k + B * m : Nat) : Int) := by simp only [vl]; rw [hm]; simp
   rw [e, Int.toNat_natCast]
   have hk : k < B := by omega
   have q1 : (k + B * m) % B = k := by rw [Nat.add_mul_mod_self_left, Nat.mod_eq_of_lt hk]
   have q2 : (k + B * m) / B = m := by rw [Nat.add_mul_div_left _ _ (by omega), Nat.div_eq_of_lt hk, Nat.zero_add]
   simp only [cutz]
   split
   ·rename_i hc
    have hm0 : m = 0 := by
     rcases Nat.eq_zero_or_pos m with h0 | h0
     ·exact h0
     ·rw [hc, dgs_pos hB h0] at ih; cases ih
    subst hm0
    simp only [Nat.mul_zero, Nat.add_zero]
    split
    ·rename_i h0
     have : k = 0 := by omega
     subst this
     rw [dgs_zero]
    ·rw [dgs_pos hB (by omega), Nat.mod_eq_of_lt hk, Nat.div_eq_of_lt hk, dgs_zero]
   ·rename_i y q hc
    have hm0 : 0 < m := by
     rcases Nat.eq_zero_or_pos m with h0 | h0
     ·subst h0; rw [hc, dgs_zero] at ih; cases ih
     ·exact h0
    have hpos : 0 < k + B * m := by
     have := Nat.mul_pos (show 0 < B by omega) hm0; omega
    rw [dgs_pos hB hpos, q1, q2, ← ih, hc]

theorem dgs_isD {B : Nat} (hB : 2 ≤ B) (n : Nat) : isD B (dgs B n) := by
 induction n using Nat.strongRecOn with
 | _ n ih =>
   rcases Nat.eq_zero_or_pos n with h | h
   ·subst h; rw [dgs_zero]; intro x hx; cases hx
   ·rw [dgs_pos hB h]
    intro x hx
    rcases List.mem_cons.1 hx with rfl | hx
    ·have := Nat.mod_lt n (show 0 < B by omega)
     omega
    ·exact ih (n / B) (Nat.div_lt_self h (by omega)) x hx
theorem dgs_vl {B : Nat} (hB : 2 ≤ B) (n : Nat) : vl B (dgs B n) = n := by
 induction n using Nat.strongRecOn with
 | _ n ih =>
   rcases Nat.eq_zero_or_pos n with h | h
   ·subst h; rw [dgs_zero]; rfl
   ·rw [dgs_pos hB h]
    simp only [vl]
    rw [ih (n / B) (Nat.div_lt_self h (by omega))]
    have := Nat.mod_add_div n B
    rw [← Int.natCast_mul, ← Int.natCast_add, this]
theorem dgs_cutz {B : Nat} (hB : 2 ≤ B) (n : Nat) : cutz (dgs B n) = dgs B n := by
 rw [cutz_eq hB (dgs_isD hB n), dgs_vl hB, Int.toNat_natCast]
theorem dgs_len {B : Nat} (hB : 2 ≤ B) {n k : Nat} (h : n < B ^ k) : (dgs B n).length ≤ k := by
 induction k generalizing n with
 | zero =>
   have : n = 0 := by simpa using h
   subst this; rw [dgs_zero]; exact Nat.le_refl _
 | succ k ih =>
   rcases Nat.eq_zero_or_pos n with h0 | h0
   ·subst h0; rw [dgs_zero]; simp
   ·rw [dgs_pos hB h0, List.length_cons]
    have := ih (n := n / B) (by rw [Nat.div_lt_iff_lt_mul (by omega)]; rwa [Nat.pow_succ] at h)
    omega
theorem dgs_inj {B : Nat} (hB : 2 ≤ B) {m n : Nat} (h : dgs B m = dgs B n) : m = n := by
 have h1 := dgs_vl hB m
 rw [h, dgs_vl hB] at h1
 omega
end Go.Ar
