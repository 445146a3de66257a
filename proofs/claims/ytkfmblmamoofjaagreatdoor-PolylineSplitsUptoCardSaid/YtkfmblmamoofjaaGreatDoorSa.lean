/-
 ARITHMETIC: pieces at the end left out (integer.trim, klipperef01.cut). Own work.
-/
import Derived.Test.YtkfmblmamoofjaaGreatDoorPj
import Derived.Test.YtkfmblmamoofjaaGreatDoorEa
import Derived.Test.YtkfmblmamoofjaaGreatDoorEb
import Derived.Test.YtkfmblmamoofjaaGreatDoorRb
set_option linter.unusedVariables false
set_option linter.unusedSimpArgs false
namespace Go.Proofs
open Go Go.Pi Go.RowKit Go.Ar

theorem cutz_take {l : List Int} {n : Nat} (h : n < l.length) (h0 : l.getD n 0 = 0) : cutz (l.take (n + 1)) = cutz (l.take n) := by
 rw [List.take_succ_eq_append_getElem h]
 have : l[n] = 0 := by rw [List.getD_eq_getElem?_getD, List.getElem?_eq_getElem h] at h0; exact h0
 rw [this, cutz_snoc0]
theorem cutz_take1 {l : List Int} {n : Nat} (h : n < l.length) (h0 : ¬l.getD n 0 = 0) : cutz (l.take (n + 1)) = l.take (n + 1) := by
 rw [List.take_succ_eq_append_getElem h]
 have : ¬l[n] = 0 := by rw [List.getD_eq_getElem?_getD, List.getElem?_eq_getElem h] at h0; exact h0
 rw [cutz_snoc this]

theorem Tryz.trim (l : List Int) (hl : l.length ≤ 1000000) : Con Tryz.prog Tryz.L 111 [.sl l.length (ints .u64 l)] (.sl (cutz l).length (ints .u64 (cutz l))) := by
 refine rule111 Tryz.hL rfl rfl rfl ?_
 (simp only [pc111, rs111, oU, oC]; refine ev ?_; try exact ⟨⟩)
 refine loopF_of (fun E => ∃ k : Nat, k ≤ l.length ∧ cutz l = cutz (l.take k) ∧ E = [(0, .sl k (ints .u64 (l.take k)))])
  (fun E => match lk E 0 with | .sl k _ => k | _ => 0) ⟨l.length, Nat.le_refl _, by rw [List.take_length], by rw [List.take_length]⟩ ?_
 rintro _ ⟨k, hk, hc, rfl⟩
 (refine ev ?_; try exact ⟨⟩)
 refine ⟨fun h1 => ?_, fun h1 => ?_⟩
 ·obtain ⟨n, rfl⟩ : ∃ n, k = n + 1 := ⟨k - 1, by omega⟩
  have hlen : (l.take (n + 1)).length = n + 1 := by rw [List.length_take]; omega
  have hd : (l.take (n + 1)).getD n 0 = l.getD n 0 := by
   rw [List.getD_eq_getElem?_getD, List.getD_eq_getElem?_getD, List.getElem?_take, if_pos (by omega)]
  rw [show (((n + 1 : Nat) : Int) - 1).toNat = n by omega, hlen, hd]
  refine ⟨by omega, by omega, by omega, fun h2 => ?_, fun h2 => ?_⟩
  ·exact ⟨by omega, by omega, by omega, by omega, rfl, ⟨n, by omega, by rw [hc, cutz_take (by omega) h2], by rw [List.take_take, Nat.min_eq_left (by omega)]⟩, by omega⟩
  ·rw [hc, cutz_take1 (by omega) h2]
   exact ⟨hlen.symm, rfl⟩
 ·obtain rfl : k = 0 := by omega
  rw [hc]; exact ⟨rfl, rfl⟩

end Go.Proofs

/-
 ARITHMETIC: integer.plus. Own work.
-/
namespace Go.Proofs
open Go Go.Pi Go.RowKit Go.Ar

theorem vl_take {B : Int} {l : List Int} {k : Nat} (h : k < l.length) : vl B (l.take (k + 1)) = vl B (l.take k) + B ^ k * l.getD k 0 := by
 rw [List.take_succ_eq_append_getElem h, vl_append, List.length_take, Nat.min_eq_left (by omega)]
 have : l.getD k 0 = l[k] := by rw [List.getD_eq_getElem?_getD, List.getElem?_eq_getElem h]; rfl
 rw [this]; simp [vl]
theorem vl_take_ge {B : Int} {l : List Int} {k : Nat} (h : l.length ≤ k) : vl B (l.take k) = vl B l := by rw [List.take_of_length_le h]
theorem isD_getD {B : Int} (hB : 0 < B) {l : List Int} (h : isD B l) (k : Nat) : 0 ≤ l.getD k 0 ∧ l.getD k 0 < B := by
 rw [List.getD_eq_getElem?_getD]
 cases hk : l[k]? with
 | none => simp; exact hB
 | some x => simp; exact h x (List.mem_of_getElem? hk)
theorem isD_snoc {B : Int} {l : List Int} {x : Int} (h : isD B l) (hx : 0 ≤ x ∧ x < B) : isD B (l ++ [x]) := by
 intro y hy
 rcases List.mem_append.1 hy with hy | hy
 ·exact h y hy
 ·rw [List.mem_singleton.1 hy]; exact hx

abbrev big : Int := 1000000000
/-- the pieces of a number, to the base of the program's integers -/
abbrev pcs (n : Nat) : List Int := dgs 1000000000 n

theorem add_step {c x y : Int} (hc : 0 ≤ c) (hc1 : c ≤ 1) (hx : 0 ≤ x ∧ x < big) (hy : 0 ≤ y ∧ y < big) : 0 ≤ c + x + y ∧ (0 ≤ c + x + y ∧ c + x + y ≤ 18446744073709551615) ∧ 0 ≤ (c + x + y) % big ∧ (c + x + y) % big < big ∧ 0 ≤ (c + x + y) / big ∧ (c + x + y) / big ≤ 1 := by
 have h1 := hx.2
 have h2 := hy.2
 simp only [big] at *
 omega
theorem plus_step {out : List Int} {k : Nat} {c x y VA VB : Int} (ho : out.length = k) (hv : vl big out + big ^ k * c = VA + VB) :
  vl big (out ++ [(c + x + y) % big]) + big ^ (k + 1) * ((c + x + y) / big) = VA + big ^ k * x + (VB + big ^ k * y) := by
 rw [vl_append, ho, Int.pow_succ]
 have e : (c + x + y) % big + big * ((c + x + y) / big) = c + x + y := Int.emod_add_mul_ediv _ _
 have e2 : big ^ k * (c + x + y) = big ^ k * ((c + x + y) % big) + big ^ k * big * ((c + x + y) / big) := by
  rw [Int.mul_assoc, ← Int.mul_add, e]
 rw [Int.mul_add, Int.mul_add] at e2
 simp only [vl, Int.mul_zero, Int.add_zero]
 omega

theorem Tryz.plus (a b : List Int) (ha : a.length ≤ 100000) (hb : b.length ≤ 100000) (da : isD big a) (db : isD big b) :
  Con Tryz.prog Tryz.L 97 [.sl a.length (ints .u64 a), .sl b.length (ints .u64 b)] (.sl (pcs (vl big a + vl big b).toNat).length (ints .u64 (pcs (vl big a + vl big b).toNat))) := by
 refine rule97 Tryz.hL rfl rfl rfl ?_
 (simp only [pc97, rs97, oU, oC]; refine ev ?_; try exact ⟨⟩)
 refine ⟨fun h0 => ⟨by omega, by omega, ?_⟩, fun h0 => ⟨by omega, by omega, ?_⟩⟩
 ·refine loopF_of (fun E => ∃ (k : Nat) (out : List Int) (c : Int), k ≤ b.length ∧ out.length = k ∧ isD big out ∧ 0 ≤ c ∧ c ≤ 1 ∧ vl big out + big ^ k * c = vl big (b.take k) + vl big (a.take k) ∧
    E = [(1, .sl a.length (ints .u64 a)), (5, .own true 107 k (ints .u64 out)), (6, .int .u64 c), (20, .sl b.length (ints .u64 b)), (21, .int .i64 b.length), (22, .int .i64 k)])
   (fun E => match lk E 22 with | .int _ i => b.length - i.toNat | _ => 0) ⟨0, [], 0, Nat.zero_le _, rfl, fun x h => (by cases h), by omega, by omega, rfl, rfl⟩ ?_
  rintro _ ⟨k, out, c, hk, ho, hd, hc0, hc1, hv, rfl⟩
  (refine ev ?_; try exact ⟨⟩)
  refine ⟨fun h1 => ?_, fun h1 => ?_⟩
  ·have hx := isD_getD (by decide) db k
   have hxa := vl_take (B := big) (l := b) (k := k) (by omega)
   generalize b.getD k 0 = x at hx hxa ⊢
   refine ⟨⟨by omega, by omega, by omega⟩, by omega, by (have := hx.2; simp only [big] at this; omega), fun h2 => ?_, fun h2 => ?_⟩
   ·have hy := isD_getD (by decide) da k
    have hya := vl_take (B := big) (l := a) (k := k) (by omega)
    generalize a.getD k 0 = y at hy hya ⊢
    obtain ⟨s0, s01, s1, s2, s3, s4⟩ := add_step (c := c) (x := x) (y := y) hc0 hc1 hx hy
    rw [Int.tdiv_eq_ediv_of_nonneg s0, Int.tmod_eq_emod_of_nonneg s0]
    refine ⟨⟨by omega, by omega, by omega⟩, by omega, s01, by omega, by omega, by omega, by omega, ⟨k + 1, out ++ [(c + x + y) % big], (c + x + y) / big, by omega, by rw [List.length_append, ho]; rfl, isD_snoc hd ⟨s1, s2⟩, s3, s4, ?_, rfl, rfl, rfl⟩, by omega⟩
    rw [hxa, hya]; exact plus_step ho hv
   ·obtain ⟨s0, s01, s1, s2, s3, s4⟩ := add_step (c := c) (x := x) (y := 0) hc0 hc1 hx ⟨by omega, by decide⟩
    have e0 : c + x + 0 = c + x := Int.add_zero _
    rw [e0] at s0 s01 s1 s2 s3 s4
    rw [Int.tdiv_eq_ediv_of_nonneg s0, Int.tmod_eq_emod_of_nonneg s0]
    refine ⟨by omega, by omega, by omega, by omega, ⟨k + 1, out ++ [(c + x) % big], (c + x) / big, by omega, by rw [List.length_append, ho]; rfl, isD_snoc hd ⟨s1, s2⟩, s3, s4, ?_, rfl, rfl, rfl⟩, by omega⟩
    have := plus_step (x := x) (y := 0) ho hv
    rw [e0, Int.mul_zero, Int.add_zero] at this
    rw [hxa, vl_take_ge (show a.length ≤ k + 1 by omega), this, vl_take_ge (show a.length ≤ k by omega)]
  ·obtain rfl : k = b.length := by omega
   rw [List.take_length, vl_take_ge (by omega)] at hv
   have hd2 : isD big (out ++ [c]) := isD_snoc hd ⟨hc0, by simp only [big]; omega⟩
   have e1 : cutz (out ++ [c]) = pcs (vl big a + vl big b).toNat := by
    rw [cutz_eq (B := 1000000000) (by decide) hd2, vl_append, ho]
    congr 2
    simp only [vl, Int.mul_zero, Int.add_zero]
    show vl big out + big ^ b.length * c = _
    omega
   have ht := Tryz.trim (out ++ [c]) (by rw [List.length_append, ho]; simp; omega)
   rw [e1, List.length_append, ho] at ht
   refine ⟨by omega, by omega, ?_⟩
   refine callF_of ht ?_
   (refine ev ?_; try exact ⟨⟩)
 ·refine loopF_of (fun E => ∃ (k : Nat) (out : List Int) (c : Int), k ≤ a.length ∧ out.length = k ∧ isD big out ∧ 0 ≤ c ∧ c ≤ 1 ∧ vl big out + big ^ k * c = vl big (a.take k) + vl big (b.take k) ∧
    E = [(1, .sl b.length (ints .u64 b)), (5, .own true 107 k (ints .u64 out)), (6, .int .u64 c), (20, .sl a.length (ints .u64 a)), (21, .int .i64 a.length), (22, .int .i64 k)])
   (fun E => match lk E 22 with | .int _ i => a.length - i.toNat | _ => 0) ⟨0, [], 0, Nat.zero_le _, rfl, fun x h => (by cases h), by omega, by omega, rfl, rfl⟩ ?_
  rintro _ ⟨k, out, c, hk, ho, hd, hc0, hc1, hv, rfl⟩
  (refine ev ?_; try exact ⟨⟩)
  refine ⟨fun h1 => ?_, fun h1 => ?_⟩
  ·have hx := isD_getD (by decide) da k
   have hxa := vl_take (B := big) (l := a) (k := k) (by omega)
   generalize a.getD k 0 = x at hx hxa ⊢
   refine ⟨⟨by omega, by omega, by omega⟩, by omega, by (have := hx.2; simp only [big] at this; omega), fun h2 => ?_, fun h2 => ?_⟩
   ·have hy := isD_getD (by decide) db k
    have hya := vl_take (B := big) (l := b) (k := k) (by omega)
    generalize b.getD k 0 = y at hy hya ⊢
    obtain ⟨s0, s01, s1, s2, s3, s4⟩ := add_step (c := c) (x := x) (y := y) hc0 hc1 hx hy
    rw [Int.tdiv_eq_ediv_of_nonneg s0, Int.tmod_eq_emod_of_nonneg s0]
    refine ⟨⟨by omega, by omega, by omega⟩, by omega, s01, by omega, by omega, by omega, by omega, ⟨k + 1, out ++ [(c + x + y) % big], (c + x + y) / big, by omega, by rw [List.length_append, ho]; rfl, isD_snoc hd ⟨s1, s2⟩, s3, s4, ?_, rfl, rfl, rfl⟩, by omega⟩
    rw [hxa, hya]; exact plus_step ho hv
   ·obtain ⟨s0, s01, s1, s2, s3, s4⟩ := add_step (c := c) (x := x) (y := 0) hc0 hc1 hx ⟨by omega, by decide⟩
    have e0 : c + x + 0 = c + x := Int.add_zero _
    rw [e0] at s0 s01 s1 s2 s3 s4
    rw [Int.tdiv_eq_ediv_of_nonneg s0, Int.tmod_eq_emod_of_nonneg s0]
    refine ⟨by omega, by omega, by omega, by omega, ⟨k + 1, out ++ [(c + x) % big], (c + x) / big, by omega, by rw [List.length_append, ho]; rfl, isD_snoc hd ⟨s1, s2⟩, s3, s4, ?_, rfl, rfl, rfl⟩, by omega⟩
    have := plus_step (x := x) (y := 0) ho hv
    rw [e0, Int.mul_zero, Int.add_zero] at this
    rw [hxa, vl_take_ge (show b.length ≤ k + 1 by omega), this, vl_take_ge (show b.length ≤ k by omega)]
  ·obtain rfl : k = a.length := by omega
   rw [List.take_length, vl_take_ge (by omega)] at hv
   have hd2 : isD big (out ++ [c]) := isD_snoc hd ⟨hc0, by simp only [big]; omega⟩
   have e1 : cutz (out ++ [c]) = pcs (vl big a + vl big b).toNat := by
    rw [cutz_eq (B := 1000000000) (by decide) hd2, vl_append, ho]
    congr 2
    simp only [vl, Int.mul_zero, Int.add_zero]
    show vl big out + big ^ a.length * c = _
    omega
   have ht := Tryz.trim (out ++ [c]) (by rw [List.length_append, ho]; simp; omega)
   rw [e1, List.length_append, ho] at ht
   refine ⟨by omega, by omega, ?_⟩
   refine callF_of ht ?_
   (refine ev ?_; try exact ⟨⟩)
end Go.Proofs

/-
 ARITHMETIC: integer.minus, integer.order. Own work.
-/
namespace Go.Proofs
open Go Go.Pi Go.RowKit Go.Ar

theorem minus_step {out : List Int} {k : Nat} {c x y d c' VA VB : Int} (ho : out.length = k) (hv : vl big out - big ^ k * c = VA - VB) (hd : d = x - (c + y) + big * c') :
  vl big (out ++ [d]) - big ^ (k + 1) * c' = VA + big ^ k * x - (VB + big ^ k * y) := by
 rw [vl_append, ho, Int.pow_succ, hd]
 simp only [vl, Int.mul_zero, Int.add_zero]
 have e2 : big ^ k * (x - (c + y) + big * c') = big ^ k * x - big ^ k * c - big ^ k * y + big ^ k * big * c' := by
  rw [Int.mul_add, Int.mul_sub, Int.mul_add, ← Int.mul_assoc]; omega
 rw [e2]; omega

set_option maxHeartbeats 1000000 in
theorem Tryz.minus (a b : List Int) (ha : a.length ≤ 100000) (hb : b.length ≤ a.length) (da : isD big a) (db : isD big b) (hab : vl big b ≤ vl big a) :
  Con Tryz.prog Tryz.L 99 [.sl a.length (ints .u64 a), .sl b.length (ints .u64 b)] (.sl (pcs (vl big a - vl big b).toNat).length (ints .u64 (pcs (vl big a - vl big b).toNat))) := by
 refine rule99 Tryz.hL rfl rfl rfl ?_
 (simp only [pc99, rs99, oU, oC]; refine ev ?_; try exact ⟨⟩)
 refine ⟨by omega, ?_⟩
 refine loopF_of (fun E => ∃ (k : Nat) (out : List Int) (c : Int), k ≤ a.length ∧ out.length = k ∧ isD big out ∧ 0 ≤ c ∧ c ≤ 1 ∧ vl big out - big ^ k * c = vl big (a.take k) - vl big (b.take k) ∧
   E = [(1, .sl b.length (ints .u64 b)), (5, .own true 107 k (ints .u64 out)), (6, .int .u64 c), (13, .sl a.length (ints .u64 a)), (14, .int .i64 a.length), (15, .int .i64 k)])
  (fun E => match lk E 15 with | .int _ i => a.length - i.toNat | _ => 0) ⟨0, [], 0, Nat.zero_le _, rfl, fun x h => (by cases h), by omega, by omega, rfl, rfl⟩ ?_
 rintro _ ⟨k, out, c, hk, ho, hd, hc0, hc1, hv, rfl⟩
 (refine ev ?_; try exact ⟨⟩)
 refine ⟨fun h1 => ?_, fun h1 => ?_⟩
 ·have hx := isD_getD (by decide) da k
  have hxa := vl_take (B := big) (l := a) (k := k) (by omega)
  generalize a.getD k 0 = x at hx hxa ⊢
  have hx2 := hx.2
  simp only [big] at hx2
  have fin : ∀ (d c' y : Int), d = x - (c + y) + big * c' → 0 ≤ d → d < big → 0 ≤ c' → c' ≤ 1 → vl big (b.take (k + 1)) = vl big (b.take k) + big ^ k * y →
    (k + 1) * 8 ≤ 140737488355328 ∧ k ≤ 9223372036854775806 ∧ (-9223372036854775808 ≤ (k : Int) + 1 ∧ (k : Int) + 1 ≤ 9223372036854775807) ∧
    (∃ (k_1 : Nat) (out_1 : List Int) (c_1 : Int), k_1 ≤ a.length ∧ out_1.length = k_1 ∧ isD big out_1 ∧ 0 ≤ c_1 ∧ c_1 ≤ 1 ∧ vl big out_1 - big ^ k_1 * c_1 = vl big (a.take k_1) - vl big (b.take k_1) ∧
     (5, D.own true 107 (k + 1) (ints .u64 (out ++ [d]))) = (5, D.own true 107 k_1 (ints .u64 out_1)) ∧ (6, D.int IntKind.u64 c') = (6, D.int IntKind.u64 c_1) ∧ (15, D.int IntKind.i64 ((k : Int) + 1)) = (15, D.int IntKind.i64 k_1)) ∧
    a.length - ((k : Int) + 1).toNat < a.length - k := fun d c' y e1 h2 h3 h4 h5 e2 =>
   ⟨by omega, by omega, by omega, ⟨k + 1, out ++ [d], c', by omega, by rw [List.length_append, ho]; rfl, isD_snoc hd ⟨h2, h3⟩, h4, h5, by rw [hxa, e2]; exact minus_step ho hv e1, rfl, rfl, rfl⟩, by omega⟩
  refine ⟨⟨by omega, by omega, by omega⟩, by omega, fun h2 => ?_, fun h2 => ?_⟩
  ·have hy := isD_getD (by decide) db k
   have hya := vl_take (B := big) (l := b) (k := k) (by omega)
   generalize b.getD k 0 = y at hy hya ⊢
   have hy2 := hy.2
   simp only [big] at hy2
   exact ⟨by omega, by omega, by omega, fun h3 => ⟨by omega, by omega, fin _ 1 y (by simp only [big]; omega) (by omega) (by simp only [big]; omega) (by omega) (by omega) hya⟩,
    fun h3 => ⟨by omega, fin _ 0 y (by simp only [big]; omega) (by omega) (by simp only [big]; omega) (by omega) (by omega) hya⟩⟩
  ·have hya : vl big (b.take (k + 1)) = vl big (b.take k) + big ^ k * 0 := by rw [vl_take_ge (show b.length ≤ k + 1 by omega), vl_take_ge (show b.length ≤ k by omega)]; simp
   exact ⟨fun h3 => ⟨by omega, by omega, fin _ 1 0 (by simp only [big]; omega) (by omega) (by simp only [big]; omega) (by omega) (by omega) hya⟩,
    fun h3 => ⟨by omega, fin _ 0 0 (by simp only [big]; omega) (by omega) (by simp only [big]; omega) (by omega) (by omega) hya⟩⟩
 ·obtain rfl : k = a.length := by omega
  rw [List.take_length, vl_take_ge (by omega)] at hv
  have hlt := vl_lt (by decide) hd
  rw [ho] at hlt
  have hc : c = 0 := by
   have : c = 0 ∨ c = 1 := by omega
   rcases this with h | h
   ·exact h
   ·subst h; rw [Int.mul_one] at hv; omega
  subst hc
  have e1 : cutz out = pcs (vl big a - vl big b).toNat := by
   rw [cutz_eq (B := 1000000000) (by decide) hd]
   congr 2
   show vl big out = _
   rw [Int.mul_zero] at hv; omega
  have ht := Tryz.trim out (by omega)
  rw [e1, ho] at ht
  refine callF_of ht ?_
  (refine ev ?_; try exact ⟨⟩)

/-! ### order -/
theorem vl_split {B : Int} {l : List Int} {i : Nat} (h : i < l.length) : vl B l = vl B (l.take i) + B ^ i * (l.getD i 0 + B * vl B (l.drop (i + 1))) := by
 have e : l = l.take i ++ (l[i] :: l.drop (i + 1)) := by rw [← List.drop_eq_getElem_cons h, List.take_append_drop]
 have hg : l.getD i 0 = l[i] := by rw [List.getD_eq_getElem?_getD, List.getElem?_eq_getElem h]; rfl
 rw [hg]
 have := vl_append (B := B) (l.take i) (l[i] :: l.drop (i + 1))
 rw [← e, List.length_take, Nat.min_eq_left (by omega)] at this
 simpa only [vl] using this
theorem isD_take {B : Int} {l : List Int} (h : isD B l) (n : Nat) : isD B (l.take n) := fun x hx => h x (List.mem_of_mem_take hx)
/-- the first difference from the top decides -/
theorem vl_top {a b : List Int} {i : Nat} (ha : i < a.length) (hb : i < b.length) (da : isD big a) (db : isD big b) (hd : a.drop (i + 1) = b.drop (i + 1)) (hi : a.getD i 0 < b.getD i 0) : vl big a < vl big b := by
 rw [vl_split ha, vl_split hb, hd]
 have h1 := vl_lt (B := big) (by decide) (isD_take da i)
 have h2 := vl_nonneg (B := big) (by decide) (isD_take db i)
 rw [List.length_take, Nat.min_eq_left (by omega)] at h1
 have h3 : big ^ i * (a.getD i 0 + big * vl big (b.drop (i + 1)) + 1) ≤ big ^ i * (b.getD i 0 + big * vl big (b.drop (i + 1))) :=
  Int.mul_le_mul_of_nonneg_left (by omega) (Int.pow_nonneg (by decide))
 rw [Int.mul_add, Int.mul_one] at h3
 omega
theorem pcs_isD (n : Nat) : isD big (pcs n) := dgs_isD (B := 1000000000) (by decide) n
theorem pcs_vl (n : Nat) : vl big (pcs n) = n := dgs_vl (B := 1000000000) (by decide) n
theorem pcs_len_lt {m n : Nat} (h : (pcs m).length < (pcs n).length) : m < n := by
 rcases Nat.lt_or_ge m n with h1 | h1
 ·exact h1
 ·have h2 := vl_lt (B := big) (by decide) (pcs_isD m)
  rw [pcs_vl] at h2
  have h3 : ((m : Nat) : Int) < ((1000000000 ^ (pcs m).length : Nat) : Int) := by
   rw [Int.natCast_pow]
   exact h2
  exact absurd h (Nat.not_lt.2 (dgs_len (B := 1000000000) (by decide) (Nat.lt_of_le_of_lt h1 (Int.ofNat_lt.1 h3))))
def cmpN (m n : Nat) : Int := if m < n then -1 else if n < m then 1 else 0

theorem Tryz.order (m n : Nat) (hm : (pcs m).length ≤ 100000) (hn : (pcs n).length ≤ 100000) :
  Con Tryz.prog Tryz.L 98 [.sl (pcs m).length (ints .u64 (pcs m)), .sl (pcs n).length (ints .u64 (pcs n))] (.int .i64 (cmpN m n)) := by
 have da := pcs_isD m
 have db := pcs_isD n
 have va := pcs_vl m
 have vb := pcs_vl n
 have l1 := pcs_len_lt (m := m) (n := n)
 have l2 := pcs_len_lt (m := n) (n := m)
 have ei : pcs m = pcs n → m = n := dgs_inj (by decide)
 refine rule98 Tryz.hL rfl rfl rfl ?_
 (simp only [pc98, rs98, oU, oC]; refine ev ?_; try exact ⟨⟩)
 generalize pcs m = a at *
 generalize pcs n = b at *
 have lt : m < n → cmpN m n = -1 := fun h => if_pos h
 have gt : n < m → cmpN m n = 1 := fun h => by unfold cmpN; rw [if_neg (by omega), if_pos h]
 have eq : m = n → cmpN m n = 0 := fun h => by unfold cmpN; rw [if_neg (by omega), if_neg (by omega)]
 refine ⟨fun h0 => ⟨fun h1 => (lt (l1 (by omega))).symm, fun h1 => (gt (l2 (by omega))).symm⟩, fun h0 => ⟨by omega, ?_⟩⟩
 have hl : a.length = b.length := by omega
 refine loopF_of (fun E => ∃ i : Nat, i ≤ a.length ∧ a.drop i = b.drop i ∧ E = [(0, .sl a.length (ints .u64 a)), (1, .sl b.length (ints .u64 b)), (5, .int .i64 ((i : Int) - 1))])
  (fun E => match lk E 5 with | .int _ i => (i + 1).toNat | _ => 0) ⟨a.length, Nat.le_refl _, by rw [List.drop_length, hl, List.drop_length], rfl⟩ ?_
 rintro _ ⟨i, hi, hdr, rfl⟩
 (refine ev ?_; try exact ⟨⟩)
 refine ⟨fun h1 => ?_, fun h1 => ?_⟩
 ·obtain ⟨j, rfl⟩ : ∃ j, i = j + 1 := ⟨i - 1, by omega⟩
  rw [show (((j + 1 : Nat) : Int) - 1).toNat = j by omega]
  refine ⟨by omega, by omega, by omega, by omega, fun h2 => ⟨by omega, by omega, by omega, by omega, fun h3 => ?_, fun h3 => ?_⟩, fun h2 => ⟨by omega, ⟨j, by omega, ?_, by rw [show ((j + 1 : Nat) : Int) - 1 - 1 = (j : Int) - 1 by omega]⟩, by omega⟩⟩
  ·have := vl_top (by omega) (by omega) da db hdr h3
   exact (lt (by omega)).symm
  ·have := vl_top (by omega) (by omega) db da hdr.symm (by omega)
   exact (gt (by omega)).symm
  ·have h2 : a.getD j 0 = b.getD j 0 := Decidable.of_not_not h2
   rw [List.drop_eq_getElem_cons (show j < a.length by omega), List.drop_eq_getElem_cons (show j < b.length by omega), hdr]
   rw [List.getD_eq_getElem?_getD, List.getD_eq_getElem?_getD, List.getElem?_eq_getElem (show j < a.length by omega), List.getElem?_eq_getElem (show j < b.length by omega)] at h2
   simp only [Option.getD_some] at h2
   rw [h2]
 ·obtain rfl : i = 0 := by omega
  exact (eq (ei (by simpa using hdr))).symm
end Go.Proofs

/-
 ARITHMETIC: integer.times. Own work.
-/
namespace Go.Proofs
open Go Go.Pi Go.RowKit Go.Ar

theorem vl_set {B : Int} {d : Int} : ∀ {l : List Int} {j : Nat}, j < l.length → vl B (l.set j d) = vl B l + B ^ j * (d - l.getD j 0)
 | [], j, h => by simp at h
 | x :: l, 0, _ => by simp [vl]; omega
 | x :: l, j + 1, h => by
   have ih := vl_set (B := B) (d := d) (l := l) (j := j) (by simpa using h)
   simp only [List.set_cons_succ, vl, ih, List.getD_cons_succ]
   rw [Int.mul_add, ← Int.mul_assoc, Int.pow_succ, Int.mul_comm B (B ^ j)]
   omega
theorem isD_set {B : Int} {l : List Int} {j : Nat} {d : Int} (h : isD B l) (hd : 0 ≤ d ∧ d < B) : isD B (l.set j d) := fun x hx => by
 rcases List.mem_or_eq_of_mem_set hx with h1 | h1
 ·exact h x h1
 ·rw [h1]; exact hd


/-- one step of a product -/
theorem mul_bound {c o x y : Int} (hc : 0 ≤ c ∧ c < big) (ho : 0 ≤ o ∧ o < big) (hx : 0 ≤ x ∧ x < big) (hy : 0 ≤ y ∧ y < big) : 0 ≤ x * y ∧ 0 ≤ c + (o + x * y) ∧ c + (o + x * y) < 1000000000000000000 ∧ o + x * y < 1000000000000000000 ∧ x * y < 1000000000000000000 := by
 have h1 : 0 ≤ x * y := Int.mul_nonneg hx.1 hy.1
 have h2 : x * y ≤ 999999999 * 999999999 := Int.mul_le_mul (by have := hx.2; simp only [big] at this; omega) (by have := hy.2; simp only [big] at this; omega) hy.1 (by decide)
 have h3 := hc.2
 have h4 := ho.2
 simp only [big] at h3 h4
 omega
theorem mul_step {out : List Int} {j : Nat} {c s V W : Int} (hj : j < out.length) (hv : vl big out + big ^ j * c = V) (hs : s = c + (out.getD j 0 + W)) :
  vl big (out.set j (s % big)) + big ^ (j + 1) * (s / big) = V + big ^ j * W := by
 rw [vl_set hj, Int.pow_succ]
 have e : s % big + big * (s / big) = s := Int.emod_add_mul_ediv _ _
 have e2 : big ^ j * s = big ^ j * (s % big) + big ^ j * big * (s / big) := by rw [Int.mul_assoc, ← Int.mul_add, e]
 have e3 : big ^ j * s = big ^ j * c + (big ^ j * out.getD j 0 + big ^ j * W) := by rw [hs, Int.mul_add, Int.mul_add]
 rw [Int.mul_sub]
 omega

theorem repl_ints (k : IntKind) : ∀ n : Nat, (List.replicate n [D.int k 0]).flatten = ints k (List.replicate n 0)
 | 0 => rfl
 | n + 1 => by simp only [List.replicate_succ, List.flatten_cons, repl_ints k n]; rfl
theorem isD_repl (n : Nat) : isD big (List.replicate n 0) := fun x hx => by rw [List.eq_of_mem_replicate hx]; exact ⟨by decide, by decide⟩
theorem vl_repl (B : Int) : ∀ n : Nat, vl B (List.replicate n 0) = 0
 | 0 => rfl
 | n + 1 => by simp only [List.replicate_succ, vl, vl_repl B n]; simp
theorem mul_dist {V T x y : Int} {i k : Nat} : V + big ^ i * x * (T + big ^ k * y) = V + big ^ i * x * T + big ^ (i + k) * (x * y) := by
 rw [Int.mul_add, Int.pow_add]
 have : big ^ i * x * (big ^ k * y) = big ^ i * big ^ k * (x * y) := by
  rw [Int.mul_assoc, Int.mul_assoc, Int.mul_left_comm x]
 omega
theorem take_mul_lt {a b : List Int} (da : isD big a) (db : isD big b) {i : Nat} (hi : i ≤ a.length) : vl big (a.take i) * vl big b < big ^ (i + b.length) := by
 have h1 := vl_lt (B := big) (by decide) (isD_take da i)
 rw [List.length_take, Nat.min_eq_left hi] at h1
 have h2 := vl_lt (B := big) (by decide) db
 have h3 := vl_nonneg (B := big) (by decide) (isD_take da i)
 have h4 := vl_nonneg (B := big) (by decide) db
 rw [Int.pow_add]
 have h5 : vl big (a.take i) * vl big b ≤ vl big (a.take i) * big ^ b.length := Int.mul_le_mul_of_nonneg_left (by omega) h3
 have h6 : vl big (a.take i) * big ^ b.length < big ^ i * big ^ b.length := Int.mul_lt_mul_of_pos_right h1 (Int.pow_pos (by decide))
 omega
theorem powle {m k : Nat} (h : m ≤ k) : big ^ m ≤ big ^ k := by
 have := Nat.pow_le_pow_right (n := 1000000000) (by decide) h
 have e : ∀ j : Nat, big ^ j = ((1000000000 ^ j : Nat) : Int) := fun j => by rw [Int.natCast_pow]; rfl
 rw [e, e]; exact Int.ofNat_le.2 this
/-- a carry left over has a place -/
theorem carry_room {out : List Int} {c V : Int} {k m : Nat} (hd : isD big out) (hv : vl big out + big ^ k * c = V) (hc : 0 < c) (hV : V < big ^ m) : k < m := by
 rcases Nat.lt_or_ge k m with h | h
 ·exact h
 ·have h1 := vl_nonneg (B := big) (by decide) hd
  have h2 : big ^ m ≤ big ^ k := powle h
  have h3 : big ^ k * 1 ≤ big ^ k * c := Int.mul_le_mul_of_nonneg_left (by omega) (Int.pow_nonneg (by decide))
  omega

set_option maxHeartbeats 4000000 in
theorem Tryz.times (a b : List Int) (ha : a.length ≤ 100000) (hb : b.length ≤ 100000) (da : isD big a) (db : isD big b) :
  Con Tryz.prog Tryz.L 88 [.sl a.length (ints .u64 a), .sl b.length (ints .u64 b)] (.sl (pcs (vl big a * vl big b).toNat).length (ints .u64 (pcs (vl big a * vl big b).toNat))) := by
 refine rule88 Tryz.hL rfl rfl rfl ?_
 simp only [pc88, rs88, oU, oC, evX, evY, evZ, forall_const, implies_true, initE, stepF, D.clean, mvF, moF, tkF, shF, ariF, ciF, catF, scF, ebF, eqF, eqOk, eqPr, enF, notF, ngF, cvF, csF, csbF, lenF, lenSF, ixF, iaF, PX.slot, iaAF, faF, ldF, D.mem, stF, bxF, mkSF, boundF, fldF, ixAF, mmF2, D.plain, D.isPure, optAll, D.dull, callVF, splice, D.cells, D.one, sets, resT, D.flat, D.flat0, D.simple, Nat.reduceBNe, Nat.reduceLT, reduceIte, Nat.reduceEqDiff, Nat.reduceAdd, Nat.reduceMul, Nat.reduceSub, Nat.reduceLeDiff, Int.reduceToNat, Int.reduceLT, Int.reduceLE, Int.reduceEq, Int.reduceNeg, Int.reduceSub, Int.reduceAdd, Int.reduceMul, stG_own, List.length_set]
 refine ⟨by omega, by omega, by omega, ?_⟩
 rw [repl_ints, show ((a.length : Int) + b.length + 1).toNat = a.length + b.length + 1 by omega]
 refine loopF_of (fun E => ∃ (i : Nat) (out : List Int), i ≤ a.length ∧ out.length = a.length + b.length + 1 ∧ isD big out ∧ vl big out = vl big (a.take i) * vl big b ∧
   E = [(1, .sl b.length (ints .u64 b)), (5, .own true 107 (a.length + b.length + 1) (ints .u64 out)), (19, .sl a.length (ints .u64 a)), (20, .int .i64 a.length), (21, .int .i64 i)])
  (fun E => match lk E 21 with | .int _ i => a.length - i.toNat | _ => 0)
  ⟨0, List.replicate (a.length + b.length + 1) 0, Nat.zero_le _, List.length_replicate, isD_repl _, by rw [vl_repl]; simp [vl], rfl⟩ ?_
 rintro _ ⟨i, out, hi, hlo, hdo, hv, rfl⟩
 simp only [evX, evY, evZ, forall_const, implies_true, initE, stepF, D.clean, mvF, moF, tkF, shF, ariF, ciF, catF, scF, ebF, eqF, eqOk, eqPr, enF, notF, ngF, cvF, csF, csbF, lenF, lenSF, ixF, iaF, PX.slot, iaAF, faF, ldF, D.mem, stF, bxF, mkSF, boundF, fldF, ixAF, mmF2, D.plain, D.isPure, optAll, D.dull, callVF, splice, D.cells, D.one, sets, resT, D.flat, D.flat0, D.simple, Nat.reduceBNe, Nat.reduceLT, reduceIte, Nat.reduceEqDiff, Nat.reduceAdd, Nat.reduceMul, Nat.reduceSub, Nat.reduceLeDiff, Int.reduceToNat, Int.reduceLT, Int.reduceLE, Int.reduceEq, Int.reduceNeg, Int.reduceSub, Int.reduceAdd, Int.reduceMul, stG_own, List.length_set]
 refine ⟨fun h1 => ?_, fun h1 => ?_⟩
 ·have hx := isD_getD (by decide) da i
  have hxa := vl_take (B := big) (l := a) (k := i) (by omega)
  have hlt := take_mul_lt da db (i := i + 1) (by omega)
  rw [hxa, Int.add_mul] at hlt
  have hxb : vl big (a.take (i + 1)) * vl big b = vl big (a.take i) * vl big b + big ^ i * a.getD i 0 * vl big b := by rw [hxa, Int.add_mul]
  generalize a.getD i 0 = x at hx hxa hlt hxb ⊢
  refine ⟨⟨by omega, by omega, by omega⟩, by omega, ?_⟩
  refine loopF_of (fun E => ∃ (k : Nat) (o : List Int) (c : Int), k ≤ b.length ∧ o.length = a.length + b.length + 1 ∧ isD big o ∧ 0 ≤ c ∧ c < big ∧
    vl big o + big ^ (i + k) * c = vl big (a.take i) * vl big b + big ^ i * x * vl big (b.take k) ∧
    E = [(1, .sl b.length (ints .u64 b)), (5, .own true 107 (a.length + b.length + 1) (ints .u64 o)), (6, .int .i64 i), (7, .int .u64 x), (8, .int .u64 c), (19, .sl a.length (ints .u64 a)), (20, .int .i64 a.length), (21, .int .i64 i), (26, .sl b.length (ints .u64 b)), (27, .int .i64 b.length), (28, .int .i64 k)])
   (fun E => match lk E 28 with | .int _ i => b.length - i.toNat | _ => 0)
   ⟨0, out, 0, Nat.zero_le _, hlo, hdo, by omega, by decide, by rw [hv]; simp [vl], rfl⟩ ?_
  rintro _ ⟨k, o, c, hk, hlo1, hdo1, hc0, hc1, hv1, rfl⟩
  simp only [evX, evY, evZ, forall_const, implies_true, initE, stepF, D.clean, mvF, moF, tkF, shF, ariF, ciF, catF, scF, ebF, eqF, eqOk, eqPr, enF, notF, ngF, cvF, csF, csbF, lenF, lenSF, ixF, iaF, PX.slot, iaAF, faF, ldF, D.mem, stF, bxF, mkSF, boundF, fldF, ixAF, mmF2, D.plain, D.isPure, optAll, D.dull, callVF, splice, D.cells, D.one, sets, resT, D.flat, D.flat0, D.simple, Nat.reduceBNe, Nat.reduceLT, reduceIte, Nat.reduceEqDiff, Nat.reduceAdd, Nat.reduceMul, Nat.reduceSub, Nat.reduceLeDiff, Int.reduceToNat, Int.reduceLT, Int.reduceLE, Int.reduceEq, Int.reduceNeg, Int.reduceSub, Int.reduceAdd, Int.reduceMul, stG_own, List.length_set]
  refine ⟨fun h2 => ?_, fun h2 => ?_⟩
  ·have hy := isD_getD (by decide) db k
   have hya := vl_take (B := big) (l := b) (k := k) (by omega)
   generalize b.getD k 0 = y at hy hya ⊢
   rw [show ((i : Int) + k).toNat = i + k by omega]
   have ho := isD_getD (by decide) hdo1 (i + k)
   obtain ⟨m0, m1, m2, m3, m4⟩ := mul_bound ⟨hc0, hc1⟩ ho hx hy
   have st := mul_step (out := o) (j := i + k) (c := c) (W := x * y) (by omega) hv1 rfl
   rw [← mul_dist, ← hya] at st
   generalize hs : c + (o.getD (i + k) 0 + x * y) = s at *
   generalize hxy : x * y = xy at *
   generalize o.getD (i + k) 0 = ok at *
   rw [Int.tdiv_eq_ediv_of_nonneg (by omega), Int.tmod_eq_emod_of_nonneg (by omega)]
   have d1 := Int.emod_nonneg s (show big ≠ 0 by decide)
   have d2 := Int.emod_lt_of_pos s (show 0 < big by decide)
   have hd1 := isD_set (j := i + k) hdo1 ⟨d1, d2⟩
   clear d1 d2
   and_intros <;> try omega
   exact ⟨k + 1, o.set (i + k) (s % big), s / big, by omega, by rw [List.length_set]; exact hlo1, hd1, Int.ediv_nonneg m1 (by decide), Int.ediv_lt_of_lt_mul (by decide) (by simp only [big]; omega), st, rfl, rfl, rfl⟩
  ·obtain rfl : k = b.length := by omega
   rw [List.take_length, ← hxb] at hv1
   rw [← hxb] at hlt
   and_intros <;> try omega
   refine loopF_of (fun E => ∃ (k : Nat) (o : List Int) (c : Int), k ≤ i + b.length + 1 ∧ o.length = a.length + b.length + 1 ∧ isD big o ∧ 0 ≤ c ∧ c < big ∧
     vl big o + big ^ k * c = vl big (a.take (i + 1)) * vl big b ∧
     E = [(1, .sl b.length (ints .u64 b)), (5, .own true 107 (a.length + b.length + 1) (ints .u64 o)), (8, .int .u64 c), (11, .int .i64 k), (19, .sl a.length (ints .u64 a)), (20, .int .i64 a.length), (21, .int .i64 i)])
    (fun E => match lk E 11 with | .int _ j => i + b.length + 1 - j.toNat | _ => 0)
    ⟨i + b.length, o, c, by omega, hlo1, hdo1, hc0, hc1, hv1, by rw [show ((i + b.length : Nat) : Int) = (i : Int) + b.length by omega]⟩ ?_
   rintro _ ⟨k, o, c, hk, hlo1, hdo1, hc0, hc1, hv1, rfl⟩
   simp only [evX, evY, evZ, forall_const, implies_true, initE, stepF, D.clean, mvF, moF, tkF, shF, ariF, ciF, catF, scF, ebF, eqF, eqOk, eqPr, enF, notF, ngF, cvF, csF, csbF, lenF, lenSF, ixF, iaF, PX.slot, iaAF, faF, ldF, D.mem, stF, bxF, mkSF, boundF, fldF, ixAF, mmF2, D.plain, D.isPure, optAll, D.dull, callVF, splice, D.cells, D.one, sets, resT, D.flat, D.flat0, D.simple, Nat.reduceBNe, Nat.reduceLT, reduceIte, Nat.reduceEqDiff, Nat.reduceAdd, Nat.reduceMul, Nat.reduceSub, Nat.reduceLeDiff, Int.reduceToNat, Int.reduceLT, Int.reduceLE, Int.reduceEq, Int.reduceNeg, Int.reduceSub, Int.reduceAdd, Int.reduceMul, stG_own, List.length_set]
   refine ⟨fun h2 => ?_, fun h2 => ?_⟩
   ·have hr := carry_room hdo1 hv1 h2 hlt
    have ho := isD_getD (by decide) hdo1 k
    have st := mul_step (out := o) (j := k) (c := c) (W := 0) (by omega) hv1 rfl
    rw [Int.mul_zero, Int.add_zero, Int.add_zero] at st
    have ho1 := ho.2
    simp only [big] at ho1 hc1
    generalize hs : c + o.getD k 0 = s at *
    have s0 : 0 ≤ s := by omega
    have s1 : s < 2000000000 := by omega
    rw [Int.tdiv_eq_ediv_of_nonneg (by omega), Int.tmod_eq_emod_of_nonneg (by omega)]
    have hd1 := isD_set (j := k) hdo1 ⟨Int.emod_nonneg s (show big ≠ 0 by decide), Int.emod_lt_of_pos s (show 0 < big by decide)⟩
    and_intros <;> try omega
    exact ⟨k + 1, o.set k (s % big), s / big, by omega, by rw [List.length_set]; exact hlo1, hd1, Int.ediv_nonneg s0 (by decide), Int.ediv_lt_of_lt_mul (by decide) (by simp only [big]; omega), st, rfl, rfl, rfl⟩
   ·obtain rfl : c = 0 := by omega
    rw [Int.mul_zero, Int.add_zero] at hv1
    and_intros <;> try omega
    exact ⟨i + 1, o, by omega, hlo1, hdo1, hv1, rfl, rfl⟩
 ·obtain rfl : i = a.length := by omega
  rw [List.take_length] at hv
  have ht := Tryz.trim out (by omega)
  rw [show cutz out = pcs (vl big a * vl big b).toNat by rw [← hv]; exact cutz_eq (B := 1000000000) (by decide) hdo, hlo] at ht
  refine callF_of ht ?_
  (refine ev ?_; try exact ⟨⟩)
end Go.Proofs
