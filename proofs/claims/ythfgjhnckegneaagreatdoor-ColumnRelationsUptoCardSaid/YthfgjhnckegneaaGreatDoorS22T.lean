/-
  SEAT 22: the table for closed runs; known(). Own work.
-/
import Derived.Test.YthfgjhnckegneaaGreatDoorS22M
namespace Go.Proofs
open Go Go.Pi Go.RowKit

def ext22 (f : Nat) (ds : List D) : Option D :=
  match f, ds with
  | 130, [.str l, .int .u8 n] => if 0 ≤ n ∧ n < 256 then some (.int .i64 (Lib.indexByte l n.toNat.toUInt8)) else none
  | 148, [.str l, .str [c]] => some (.int .i64 (Lib.indexByte l c))
  | 85, [.int .i64 n] => if -9223372036854775808 ≤ n ∧ n ≤ 9223372036854775807 then some (.str (Lib.itoa n)) else none
  | 109, [.str l] => if l.length ≤ 1000 then some (match Lib.atoiAll l with
    | .ok v => .tup [.int .i64 v, .err true]
    | .syntax => .tup [.int .i64 0, .err false]
    | .range => .tup [.int .i64 (Lib.atoiSat l), .err false]) else none
  | 128, [.str a, .str b] => some (.int .i64 (Lib.compareBytes a b))
  | _, _ => none

theorem ext22_ok (f : Nat) (ds : List D) (r : D) (h : ext22 f ds = some r) : Con Tryz.prog Tryz.L f ds r := by
  unfold ext22 at h
  split at h
  · rename_i l n
    split at h <;> cases h
    rename_i hn
    have := Tryz.c130 l n.toNat.toUInt8
    rwa [show ((n.toNat.toUInt8.toNat : Nat) : Int) = n by simp; omega] at this
  · cases h; exact Tryz.c148 _ _
  · split at h <;> cases h
    rename_i hn
    exact Tryz.c85 _ (inR_i64.2 hn)
  · split at h <;> cases h
    exact Tryz.c109 _ (by omega)
  · cases h; exact Tryz.c128 _ _
  · cases h

def tab22 : Tab := ⟨tabFn, ext22⟩
theorem tab22_ok : tab22.Ok Tryz.prog Tryz.L := ⟨tabFn_ok, ext22_ok⟩

def outB (o : Option Out) (b : Bool) : Bool := match o with | some (.val (.bool c)) => c == b | _ => false
def outI (o : Option Out) (n : Int) : Bool := match o with | some (.val (.int .i64 m)) => m == n | _ => false
def outS (o : Option Out) (s : List UInt8) : Bool := match o with | some (.val (.str t)) => t == s | _ => false
theorem outB_ok {o : Option Out} {b : Bool} (h : outB o b = true) : o = some (.val (.bool b)) := by
  unfold outB at h; split at h <;> simp_all
theorem outI_ok {o : Option Out} {b : Int} (h : outI o b = true) : o = some (.val (.int .i64 b)) := by
  unfold outI at h; split at h <;> simp_all
theorem outS_ok {o : Option Out} {b : List UInt8} (h : outS o b = true) : o = some (.val (.str b)) := by
  unfold outS at h; split at h <;> simp_all

/-- Of(1, 2) and so on: the numbers of plans -/
theorem t16 : outS (runJ tab22 1000 (.call 16 [.int .i64 1, .int .i64 2])) [49, 47, 50] = true := by kernel_rfl
theorem t62 : outI (runJ tab22 1000 (.call 62 [.str [49, 47, 50]])) 0 = true := by kernel_rfl
end Go.Proofs
