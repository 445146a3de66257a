/-
 SEAT 22: WHAT THE LISTED VARIABLES HOLD; THE LIBRARY'S CONTRACTS AS DATA. Own work.
-/
import Derived.Test.YtkfmblmamoofjaaGreatDoorPi
import Derived.Test.YtkfmblmamoofjaaGreatDoorShelf
import Derived.Lib.SmallJoins
import Derived.Lib.LaidTab
import Derived.Lib.ItoaLen
import Derived.Lib.AppendIntMem
set_option linter.unusedVariables false
set_option linter.unusedSimpArgs false
namespace Go.Proofs
open Go Go.Pi Go.RowKit

theorem var_keep {P : Program} {w w' : World} {name : String} {cs : Array Value} (h : w.var? P name = some cs) (hb : Below w.heap.size w w') : w'.var? P name = some cs := by
 unfold World.var? at h ⊢
 rw [Option.bind_eq_some_iff] at h ⊢
 obtain ⟨g, h1, h2⟩ := h
 refine ⟨g, h1, ?_⟩
 have hg : g < w.heap.size := by
  rcases Nat.lt_or_ge g w.heap.size with h | h
  ·exact h
  ·rw [Array.getElem?_eq_none h] at h2; cases h2
 rw [hb.block g hg]; exact h2

/-- what the library reads: the table of the powers of ten, the two errors -/
def Tryz.L (w : World) : Prop := Lib.TabIs Tryz.prog w "internal/strconv.uint64pow10" .u64 Lib.pow10Tab ∧
 (∃ tp p, w.var? Tryz.prog "strconv.ErrSyntax" = some #[.iface tp p]) ∧ (∃ tp p, w.var? Tryz.prog "strconv.ErrRange" = some #[.iface tp p])

theorem Tryz.hL : ∀ w w', Tryz.L w → Below w.heap.size w w' → Tryz.L w' := fun w w' ⟨h1, ⟨t1, p1, h2⟩, t2, p2, h3⟩ hb => ⟨var_keep h1 hb, ⟨t1, p1, var_keep h2 hb⟩, t2, p2, var_keep h3 hb⟩

/-- a contract whose result names no memory -/
theorem con_val {P : Program} {L : World → Prop} {f : FuncId} {ds : List D} {r : D} (hb : hasBody P f = true) (hr : r.flat = true)
  (h : ∀ (S : Nat → Nat → Prop) (w : World) (vs : List Value), L w → Reps S w ds vs → Calls P f vs.toArray w fun e w' => ∃ v, e = .returned v ∧ Below w.heap.size w w' ∧ ∀ S' w'', Rep S' w'' r v) : Con P L f ds r := by
 refine ⟨⟨hb, by cases r <;> first | rfl | simp [D.flat, D.flat0, D.simple] at hr⟩, fun S w vs hS hL hv => ?_⟩
 refine (h S w vs hL hv).mono ?_
 rintro e w' ⟨v, he, hbel, hrep⟩
 refine ⟨v, he, hbel, ?_⟩
 cases r <;> first
  | (simp [D.flat, D.flat0, D.simple] at hr; done)
  | exact hrep _ _

theorem reps_str1 {S : Nat → Nat → Prop} {w : World} {l : List UInt8} {vs : List Value} (h : Reps S w [.str l] vs) : vs = [.string ⟨l.toArray⟩] ∧ l.length ≤ maxLen := by
 obtain ⟨x, vs', rfl, h1, h2⟩ := h.uncons
 have : vs' = [] := by cases vs' with | nil => rfl | cons _ _ => have := h2.1; simp at this
 subst this
 cases h1
 exact ⟨rfl, by assumption⟩

theorem Tryz.c62 (n : Int) (h : inR .i64 n) : Con Tryz.prog Tryz.L 62 [.int .i64 n] (.str (Lib.itoa n)) := by
 rw [inR_i64] at h
 refine con_val (by kernel_rfl) rfl fun S w vs hL hv => ?_
 obtain ⟨x, vs', rfl, h1, h2⟩ := hv.uncons
 have : vs' = [] := by cases vs' with | nil => rfl | cons _ _ => have := h2.1; simp at this
 subst this
 cases h1
 refine (Tryz.strconv_Itoa n h.1 h.2 w hL.1).mono ?_
 rintro e w' ⟨rfl, k, os, rfl⟩
 refine ⟨_, rfl, ?_, fun S' w'' => .str _ ?_⟩
 ·exact Lib.below_grow _ w (Nat.le_refl _) k os
 ·have := Lib.itoa_length_le n h.1 h.2
  unfold maxLen; omega

theorem Tryz.c109 (l : List UInt8) (hl : l.length ≤ 281474976710656) : Con Tryz.prog Tryz.L 109 [.str l] (match Lib.atoiAll l with
  | .ok v => .tup [.int .i64 v, .err true]
  | Lib.NumEnd.syntax => .tup [.int .i64 0, .err false]
  | .range => .tup [.int .i64 (Lib.atoiSat l), .err false]) := by
 have two : ∀ (k : IntKind) (v : Int) (b : Bool) (x : Value), (∀ S w, Rep S w (.err b) x) → ∀ S w, Rep S w (.tup [.int k v, .err b]) (.tuple #[.int k v, x]) := by
  intro k v b x hx S w
  exact .tup _ [.int k v, x] rfl (Reps.cons (.int k v) (Reps.cons (hx S w) .nil)).2
 refine con_val (by kernel_rfl) (by cases Lib.atoiAll l <;> rfl) fun S w vs hL hv => ?_
 obtain ⟨rfl, hlen⟩ := reps_str1 hv
 cases h : Lib.atoiAll l
 ·rename_i v
  refine (Tryz.strconv_Atoi_ok ⟨l.toArray⟩ (by simp [ByteArray.size]; omega) v (by simpa using h) w).mono ?_
  rintro e w' ⟨rfl, rfl | ⟨t, rfl⟩⟩
  ·exact ⟨_, rfl, Below.refl _ _, two _ _ _ _ fun _ _ => .errN⟩
  ·exact ⟨_, rfl, Joins.below_bytesWorld _ _ _ _ (Nat.le_refl _), two _ _ _ _ fun _ _ => .errN⟩
 ·obtain ⟨tp, p, hvar⟩ := hL.2.1
  refine (Tryz.strconv_Atoi_syntax_var ⟨l.toArray⟩ (by simp [ByteArray.size]; omega) (by simpa using h) tp p w hvar).mono ?_
  rintro e w' ⟨N, rfl, _, _, hb⟩
  exact ⟨_, rfl, hb, two _ _ _ _ fun _ _ => .errS _ _⟩
 ·obtain ⟨tp, p, hvar⟩ := hL.2.2
  refine (Tryz.strconv_Atoi_range_var ⟨l.toArray⟩ (by simp [ByteArray.size]; omega) (by simpa using h) tp p w hvar).mono ?_
  rintro e w' ⟨N, rfl, _, _, hb⟩
  exact ⟨_, rfl, hb, two _ _ _ _ fun _ _ => .errS _ _⟩

theorem Tryz.c110 (l : List UInt8) (hl : l.length ≤ 281474976710656) : Con Tryz.prog Tryz.L 110 [.str l, .int .i64 10, .int .i64 64] (match Lib.parseUintB 64 l with
  | .ok v => .tup [.int .u64 v, .err true]
  | Lib.NumEnd.syntax => .tup [.int .u64 0, .err false]
  | .range => .tup [.int .u64 18446744073709551615, .err false]) := by
 have two : ∀ (k : IntKind) (v : Int) (b : Bool) (x : Value), (∀ S w, Rep S w (.err b) x) → ∀ S w, Rep S w (.tup [.int k v, .err b]) (.tuple #[.int k v, x]) := by
  intro k v b x hx S w
  exact .tup _ [.int k v, x] rfl (Reps.cons (.int k v) (Reps.cons (hx S w) .nil)).2
 refine con_val (by kernel_rfl) (by cases Lib.parseUintB 64 l <;> rfl) fun S w vs hL hv => ?_
 obtain ⟨x, vs', rfl, h1, h2⟩ := hv.uncons
 obtain ⟨y, vs', rfl, h3, h4⟩ := h2.uncons
 obtain ⟨z, vs', rfl, h5, h6⟩ := h4.uncons
 have : vs' = [] := by cases vs' with | nil => rfl | cons _ _ => have := h6.1; simp at this
 subst this
 cases h1; cases h3; cases h5
 cases h : Lib.parseUintB 64 l
 ·rename_i v
  refine (Tryz.strconv_ParseUint_10_at64_ok ⟨l.toArray⟩ (by simp [ByteArray.size]; omega) v (by simpa using h) w).mono ?_
  rintro e w' ⟨rfl, rfl | rfl⟩
  ·exact ⟨_, rfl, Below.refl _ _, two _ _ _ _ fun _ _ => .errN⟩
  ·exact ⟨_, rfl, Joins.below_bytesWorld _ _ _ _ (Nat.le_refl _), two _ _ _ _ fun _ _ => .errN⟩
 ·obtain ⟨tp, p, hvar⟩ := hL.2.1
  refine (Tryz.strconv_ParseUint_10_at64_syntax_var ⟨l.toArray⟩ (by simp [ByteArray.size]; omega) (by simpa using h) tp p w hvar).mono ?_
  rintro e w' ⟨N, rfl, _, _, hb⟩
  exact ⟨_, rfl, hb, two _ _ _ _ fun _ _ => .errS _ _⟩
 ·obtain ⟨tp, p, hvar⟩ := hL.2.2
  refine (Tryz.strconv_ParseUint_10_at64_range_var ⟨l.toArray⟩ (by simp [ByteArray.size]; omega) (by simpa using h) tp p w hvar).mono ?_
  rintro e w' ⟨N, rfl, _, _, hb⟩
  exact ⟨_, rfl, hb, two _ _ _ _ fun _ _ => .errS _ _⟩

theorem Tryz.c83 (a b : List UInt8) : Con Tryz.prog Tryz.L 83 [.str a, .str b] (.int .i64 (Lib.compareBytes a b)) := by
 refine con_val (by kernel_rfl) rfl fun S w vs hL hv => ?_
 obtain ⟨x, vs', rfl, h1, h2⟩ := hv.uncons
 obtain ⟨y, vs', rfl, h3, h4⟩ := h2.uncons
 have : vs' = [] := by cases vs' with | nil => rfl | cons _ _ => have := h4.1; simp at this
 subst this
 cases h1; cases h3
 refine (Tryz.strings_Compare ⟨a.toArray⟩ ⟨b.toArray⟩ w).mono ?_
 rintro e w' ⟨rfl, rfl⟩
 exact ⟨_, rfl, Below.refl _ _, fun _ _ => by simpa using .int _ _⟩

end Go.Proofs

/-
 strings.Builder: LAID BY HAND. Own work (printed by a small program).
-/
namespace Go.Proofs
open Go Go.Shelf

def Tryz.bld_ren : Go.Shelf.Ren := ⟨fun | 240 => 136 | 276 => 159 | 167 => 114 | 166 => 116 | 169 => 117 | n => n, fun | 70 => 146 | 72 => 149 | 37 => 147 | 164 => 185 | 75 => 136 | 20 => 20 | 127 => 163 | 80 => 152 | n => n, fun n => n⟩
theorem Tryz.lays167_b : Go.Proofs.Lays.n167 Tryz.prog Tryz.bld_ren := {
 mixed := by kernel_rfl
 f167 := Tryz.func114.trans (congrArg some (by kernel_rfl))
 f240 := Tryz.func136.trans (congrArg some (by kernel_rfl))
 f276 := Tryz.func159.trans (congrArg some (by kernel_rfl))
 t0 := Tryz.underlying0
 a0 := Tryz.isAgg0
 z0 := Tryz.sizeOf0
 v0 := Tryz.zeroValue0
 t4 := Tryz.underlying4
 a4 := Tryz.isAgg4
 z4 := Tryz.sizeOf4
 v4 := Tryz.zeroValue4
 t5 := Tryz.underlying5
 a5 := Tryz.isAgg5
 z5 := Tryz.sizeOf5
 v5 := Tryz.zeroValue5
 t9 := Tryz.underlying9
 a9 := Tryz.isAgg9
 z9 := Tryz.sizeOf9
 v9 := Tryz.zeroValue9
 t20 := Tryz.underlying20
 a20 := Tryz.isAgg20
 z20 := Tryz.sizeOf20
 v20 := Tryz.zeroValue20
 t37 := Tryz.underlying147
 a37 := Tryz.isAgg147
 z37 := Tryz.sizeOf147
 v37 := Tryz.zeroValue147
 t70 := Tryz.underlying146
 a70 := Tryz.isAgg146
 z70 := Tryz.sizeOf146
 v70 := Tryz.zeroValue146
 t72 := Tryz.underlying149
 a72 := Tryz.isAgg149
 z72 := Tryz.sizeOf149
 v72 := Tryz.zeroValue149
 t75 := Tryz.underlying136
 a75 := Tryz.isAgg136
 z75 := Tryz.sizeOf136
 v75 := Tryz.zeroValue136
 t164 := Tryz.underlying185
 a164 := Tryz.isAgg185
 z164 := Tryz.sizeOf185
 v164 := Tryz.zeroValue185 }
theorem Tryz.lays166_b : Go.Proofs.Lays.n166 Tryz.prog Tryz.bld_ren := {
 mixed := by kernel_rfl
 f166 := Tryz.func116.trans (congrArg some (by kernel_rfl))
 f240 := Tryz.func136.trans (congrArg some (by kernel_rfl))
 f276 := Tryz.func159.trans (congrArg some (by kernel_rfl))
 t0 := Tryz.underlying0
 a0 := Tryz.isAgg0
 z0 := Tryz.sizeOf0
 v0 := Tryz.zeroValue0
 t3 := Tryz.underlying3
 a3 := Tryz.isAgg3
 z3 := Tryz.sizeOf3
 v3 := Tryz.zeroValue3
 t4 := Tryz.underlying4
 a4 := Tryz.isAgg4
 z4 := Tryz.sizeOf4
 v4 := Tryz.zeroValue4
 t9 := Tryz.underlying9
 a9 := Tryz.isAgg9
 z9 := Tryz.sizeOf9
 v9 := Tryz.zeroValue9
 t20 := Tryz.underlying20
 a20 := Tryz.isAgg20
 z20 := Tryz.sizeOf20
 v20 := Tryz.zeroValue20
 t37 := Tryz.underlying147
 a37 := Tryz.isAgg147
 z37 := Tryz.sizeOf147
 v37 := Tryz.zeroValue147
 t70 := Tryz.underlying146
 a70 := Tryz.isAgg146
 z70 := Tryz.sizeOf146
 v70 := Tryz.zeroValue146
 t72 := Tryz.underlying149
 a72 := Tryz.isAgg149
 z72 := Tryz.sizeOf149
 v72 := Tryz.zeroValue149
 t75 := Tryz.underlying136
 a75 := Tryz.isAgg136
 z75 := Tryz.sizeOf136
 v75 := Tryz.zeroValue136
 t164 := Tryz.underlying185
 a164 := Tryz.isAgg185
 z164 := Tryz.sizeOf185
 v164 := Tryz.zeroValue185 }
theorem Tryz.lays169_b : Go.Proofs.Lays.n169 Tryz.prog Tryz.bld_ren := {
 mixed := by kernel_rfl
 f169 := Tryz.func117.trans (congrArg some (by kernel_rfl))
 t0 := Tryz.underlying0
 a0 := Tryz.isAgg0
 z0 := Tryz.sizeOf0
 v0 := Tryz.zeroValue0
 t3 := Tryz.underlying3
 a3 := Tryz.isAgg3
 z3 := Tryz.sizeOf3
 v3 := Tryz.zeroValue3
 t9 := Tryz.underlying9
 a9 := Tryz.isAgg9
 z9 := Tryz.sizeOf9
 v9 := Tryz.zeroValue9
 t37 := Tryz.underlying147
 a37 := Tryz.isAgg147
 z37 := Tryz.sizeOf147
 v37 := Tryz.zeroValue147
 t70 := Tryz.underlying146
 a70 := Tryz.isAgg146
 z70 := Tryz.sizeOf146
 v70 := Tryz.zeroValue146
 t72 := Tryz.underlying149
 a72 := Tryz.isAgg149
 z72 := Tryz.sizeOf149
 v72 := Tryz.zeroValue149
 t127 := Tryz.underlying163
 a127 := Tryz.isAgg163
 z127 := Tryz.sizeOf163
 v127 := Tryz.zeroValue163 }
theorem Tryz.bldX : Builder.Extra Tryz.prog Tryz.bld_ren where
 sizeBuilder := by kernel_rfl
 liesBuilder := by kernel_rfl
 t5 := Tryz.underlying5
 a5 := Tryz.isAgg5
 z5 := Tryz.sizeOf5
 v5 := Tryz.zeroValue5
 infoByte := by kernel_rfl
 cellsByte := by kernel_rfl
 sizeByte := by kernel_rfl
 neB5 := by decide
end Go.Proofs
