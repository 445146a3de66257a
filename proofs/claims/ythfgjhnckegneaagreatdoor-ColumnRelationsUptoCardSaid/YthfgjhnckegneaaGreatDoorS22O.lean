/-
  SEAT 22: the numbers of plans; known(). Own work.
-/
import Derived.Test.YthfgjhnckegneaaGreatDoorS22N
namespace Go.Proofs
open Go Go.Pi Go.RowKit

/-- a number below 100 in digits; k halves -/
def dec2 (n : Nat) : List UInt8 := if n < 10 then [UInt8.ofNat (48 + n)] else [UInt8.ofNat (48 + n / 10), UInt8.ofNat (48 + n % 10)]
def half (k : Nat) : List UInt8 := if k % 2 = 0 then dec2 (k / 2) else dec2 k ++ [47, 50]

theorem all_range {n : Nat} {p : Nat → Bool} (h : (List.range n).all p = true) : ∀ k, k < n → p k = true := fun k hk => List.all_eq_true.1 h k (List.mem_range.2 hk)
theorem all_range2 {n m : Nat} {p : Nat → Nat → Bool} (h : ((List.range n).all fun a => (List.range m).all (p a)) = true) : ∀ a b, a < n → b < m → p a b = true := fun a b ha hb => all_range (all_range h a ha) b hb

theorem run16 : ((List.range 8).all fun a => outS (runJ tab22 1000 (.call 16 [.int .i64 a, .int .i64 2])) (half a)) = true := by kernel_rfl
theorem run25 : ((List.range 4).all fun a => (List.range 7).all fun b => outS (runJ tab22 1000 (.call 25 [.str (half a), .str (half b)])) (half (a + b))) = true := by kernel_rfl
theorem run62 : ((List.range 20).all fun a => outI (runJ tab22 1000 (.call 62 [.str (half a)])) 0) = true := by kernel_rfl
theorem run78 : ((List.range 10).all fun a => outI (runJ tab22 1000 (.call 78 [.str (half a)])) (if a = 0 then 0 else 1)) = true := by kernel_rfl
theorem run79 : ((List.range 4).all fun a => (List.range 7).all fun b => outI (runJ tab22 1000 (.call 79 [.str (half (a + b)), .str (half a)])) (if b = 0 then 0 else 1)) = true := by kernel_rfl
theorem run68 : ((List.range 6).all fun a => outB (runJ tab22 1000 (.call 68 [.str [UInt8.ofNat (65 + a)]])) true) = true := by kernel_rfl

theorem Tryz.c16 (a : Nat) (h : a < 8) : Con Tryz.prog Tryz.L 16 [.int .i64 a, .int .i64 2] (.str (half a)) := con_run Tryz.hL tab22_ok 1000 (outS_ok (all_range run16 a h))
theorem Tryz.c25 (a b : Nat) (ha : a < 4) (hb : b < 7) : Con Tryz.prog Tryz.L 25 [.str (half a), .str (half b)] (.str (half (a + b))) := con_run Tryz.hL tab22_ok 1000 (outS_ok (all_range2 run25 a b ha hb))
theorem Tryz.c62 (a : Nat) (h : a < 20) : Con Tryz.prog Tryz.L 62 [.str (half a)] (.int .i64 0) := con_run Tryz.hL tab22_ok 1000 (outI_ok (all_range run62 a h))
theorem Tryz.c78 (a : Nat) (h : a < 10) : Con Tryz.prog Tryz.L 78 [.str (half a)] (.int .i64 (if a = 0 then 0 else 1)) := con_run Tryz.hL tab22_ok 1000 (outI_ok (all_range run78 a h))
theorem Tryz.c79 (a b : Nat) (ha : a < 4) (hb : b < 7) : Con Tryz.prog Tryz.L 79 [.str (half (a + b)), .str (half a)] (.int .i64 (if b = 0 then 0 else 1)) := con_run Tryz.hL tab22_ok 1000 (outI_ok (all_range2 run79 a b ha hb))
theorem Tryz.c68 (a : Nat) (h : a < 6) : Con Tryz.prog Tryz.L 68 [.str [UInt8.ofNat (65 + a)]] (.bool true) := con_run Tryz.hL tab22_ok 1000 (outB_ok (all_range run68 a h))

/-- the layer of unit k, with a halves as its least, and b more as its most (7: none) -/
def layOf (k a b : Nat) : Lay := ⟨[UInt8.ofNat (65 + k)], half a, if b = 7 then [] else half (a + b)⟩

theorem half_ne (a : Nat) : half a ≠ [] := by unfold half dec2; split <;> split <;> simp

theorem layOf_ok (k a b : Nat) (hk : k < 6) (ha : a < 4) (hb : b < 8) : LayOk (layOf k a b) := by
  refine ⟨Tryz.c62 a (by omega), fun h => ?_, Tryz.c68 k hk, ⟨_, ?_, Tryz.c78 a (by omega)⟩, fun h => ?_⟩
  · simp only [layOf] at h ⊢
    split at h
    · exact absurd rfl h
    · rename_i hb7; rw [if_neg hb7]; exact Tryz.c62 _ (by omega)
  · split <;> omega
  · simp only [layOf] at h ⊢
    split at h
    · exact absurd rfl h
    · rename_i hb7; rw [if_neg hb7]; exact ⟨_, by split <;> omega, Tryz.c79 a b ha (by omega)⟩

def exampleL : List Lay := [layOf 0 2 2, layOf 1 0 6, layOf 2 2 7]
theorem half_small (a : Nat) : (half a).length ≤ 10 := by unfold half dec2; split <;> split <;> simp
theorem layOf_small (k a b : Nat) : (layOf k a b).small := by
  refine ⟨by simp [layOf], by have := half_small a; simp only [layOf]; omega, ?_⟩
  simp only [layOf]
  split
  · simp
  · have := half_small (a + b); omega

theorem Tryz.c13ex : Con Tryz.prog Tryz.L 13 [.sl 3 (lays exampleL)] (.tup [.sl 3 (strs (exampleL.reverse.map Lay.line)), .int .i64 0]) := by
  refine Tryz.c13 exampleL (fun x hx => ?_) (by decide) (Tryz.c45 exampleL (by decide) (by decide) (by decide) fun x hx => ?_)
  all_goals
    simp only [exampleL, List.mem_cons, List.not_mem_nil, or_false] at hx
    rcases hx with rfl | rfl | rfl
  all_goals first
    | exact layOf_small _ _ _
    | exact layOf_ok _ _ _ (by omega) (by omega) (by omega)

def extK (f : Nat) (ds : List D) : Option D :=
  match f, ds with
  | 13, [.sl 3 [.str [65], .str [49], .str [50], .str [66], .str [48], .str [51], .str [67], .str [49], .str []]] => some (.tup [.sl 3 (strs (exampleL.reverse.map Lay.line)), .int .i64 0])
  | f, ds => ext22 f ds
theorem extK_ok (f : Nat) (ds : List D) (r : D) (h : extK f ds = some r) : Con Tryz.prog Tryz.L f ds r := by
  unfold extK at h
  split at h
  · cases h; exact Tryz.c13ex
  · exact ext22_ok _ _ _ h
def tabK : Tab := ⟨tabFn, extK⟩
theorem tabK_ok : tabK.Ok Tryz.prog Tryz.L := ⟨tabFn_ok, extK_ok⟩

theorem run11 : outB (runJ tabK 2000 (.call 11 [])) true = true := by kernel_rfl
theorem Tryz.c11 : Con Tryz.prog Tryz.L 11 [] (.bool true) := con_run Tryz.hL tabK_ok 2000 (outB_ok run11)
end Go.Proofs
