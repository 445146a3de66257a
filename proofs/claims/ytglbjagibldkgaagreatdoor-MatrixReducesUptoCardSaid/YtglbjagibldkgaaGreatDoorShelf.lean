/-
  DERIVED: THE SHELF's CONTRACTS AT THIS DUMP, IN PLAIN WORDS (tools/lay-plain.mjs out of 'K06Shelf.lean', which tools/lay-shelf.mjs wrote): THE SAME DECLARATIONS UNDER THE SAME NAMES: 'import', 'namespace', 'open', 'def', 'theorem' AND NOTHING ELSE: no command of the shelf's: FOR A HAND-IN. Each laying: the table of numbers ('.._ren') and one theorem, a field a fact of the dump's own or the kernel's comparison; each contract: ONE APPLICATION.
-/
import Derived.Shelf.Strings.Builder1
import Derived.Shelf.Small.Strs
import Derived.Shelf.Small.Wraps
import Derived.Shelf.Strings.BuilderF
import Derived.Shelf.Strings.BuilderK
import Derived.Shelf.Strconv.Atoi
import Derived.Shelf.Strconv.Itoa0
import Derived.Shelf.Strconv.Itoa1
import Derived.Shelf.LaysM
import Derived.Shelf.Strconv.Itoa2
import Derived.Shelf.Strconv.Itoa3
import Derived.Shelf.Strconv.AtoiErrFast
import Derived.Shelf.Strconv.ParseIntEmpty
import Derived.Shelf.Strconv.AtoiFail
import Derived.Shelf.Strconv.Clone
import Derived.Shelf.Strconv.SyntaxError
import Derived.Shelf.LaysC
import Derived.Shelf.Strconv.ToError
import Derived.Shelf.Strconv.AtoiErr
import Derived.Shelf.Strconv.ErrVar
import Derived.Shelf.Strconv.Lower
import Derived.Shelf.Strconv.ParseUint10
import Derived.Shelf.Strconv.ParseUint10Empty
import Derived.Shelf.Strconv.ParseUint10Any
import Derived.Shelf.Strconv.ParseInt10
import Derived.Shelf.Strconv.AtoiLong
import Derived.Shelf.Strconv.AtoiInnerAll
import Derived.Shelf.Strconv.RangeError
import Derived.Shelf.Strconv.ToErrorRange
import Derived.Shelf.Strconv.AtoiAll
import Derived.Shelf.Strconv.ErrVarAll
import Derived.Shelf.Strconv.ParseUintEmpty
import Derived.Shelf.Strconv.ParseUint10b64
import Derived.Shelf.Strconv.ParseUint10b32
import Derived.Shelf.Strconv.ParseUint10b16
import Derived.Shelf.Strconv.ParseUint10b8
import Derived.Shelf.Strconv.ParseUint10At
import Derived.Shelf.Strconv.ParseInt10At64
import Derived.Shelf.Strconv.ParseInt10At32
import Derived.Shelf.Strconv.ParseInt10At16
import Derived.Shelf.Strconv.ParseInt10At8
import Derived.Shelf.Strconv.ParseInt10All
import Derived.Ground.MpProg
import Derived.Shelf.Pu.ParseUintPublic10
import Derived.Shelf.Pu.ErrVarParseUint
import Derived.Shelf.Strings.Search1
import Derived.Shelf.Strings.Search2
import Derived.Shelf.Strings.Cut
import Derived.Shelf.Strings.Shaped
import Derived.Shelf.Strings.Prefix
import Derived.Shelf.Bits.Mul64
import Derived.Shelf.Slices.Turned
import Derived.Test.YtglbjagibldkgaaGreatDoorProg
set_option linter.unusedVariables false
set_option linter.unusedSimpArgs false
namespace Go.Proofs
open Go.Shelf
def Tryz.lays106_ren : Go.Shelf.Ren := ⟨fun | 106 => 137 | 213 => 162 | 265 => 179 | n => n, fun | 9 => 9 | 3 => 3 | n => n, fun | n => n⟩
theorem Tryz.lays106 : Go.Proofs.Lays.n106 Tryz.prog Tryz.lays106_ren := {
  mixed := by kernel_rfl
  f106 := Tryz.func137.trans (congrArg some (by kernel_rfl))
  f213 := Tryz.func162.trans (congrArg some (by kernel_rfl))
  f265 := Tryz.func179.trans (congrArg some (by kernel_rfl))
  t3 := Tryz.underlying3
  a3 := Tryz.isAgg3
  z3 := Tryz.sizeOf3
  v3 := Tryz.zeroValue3
  t9 := Tryz.underlying9
  a9 := Tryz.isAgg9
  z9 := Tryz.sizeOf9
  v9 := Tryz.zeroValue9 }
open Go.RowKit in
theorem Tryz.strings_Compare (a b : ByteArray) (w : World) :
    Calls Tryz.prog 137 #[.string a, .string b] w fun e w' => e = .returned (.int .i64 (Lib.compareBytes a.data.toList b.data.toList)) ∧ w' = w := Any.strings_Compare Tryz.lays106 a b w
def Tryz.lays283_ren : Go.Shelf.Ren := ⟨fun | 283 => 150 | n => n, fun | 3 => 3 | 9 => 9 | 4 => 4 | n => n, fun | n => n⟩
theorem Tryz.lays283 : Go.Proofs.Lays.n283 Tryz.prog Tryz.lays283_ren := {
  mixed := by kernel_rfl
  f283 := Tryz.func150.trans (congrArg some (by kernel_rfl))
  t3 := Tryz.underlying3
  a3 := Tryz.isAgg3
  z3 := Tryz.sizeOf3
  v3 := Tryz.zeroValue3
  t4 := Tryz.underlying4
  a4 := Tryz.isAgg4
  z4 := Tryz.sizeOf4
  v4 := Tryz.zeroValue4
  t9 := Tryz.underlying9
  a9 := Tryz.isAgg9
  z9 := Tryz.sizeOf9
  v9 := Tryz.zeroValue9 }
open Go.Lib in
theorem Tryz.internal_strconv_small (i : Nat) (h : i < 100) (w : World) :
    Calls Tryz.prog 150 #[.int .i64 i] w fun e w' => e = .returned (.string ⟨(Lib.decDigits i).toArray⟩) ∧ w' = w := Any.internal_strconv_small Tryz.lays283 i h w
def Tryz.laysM284_ren : Go.Shelf.Ren := ⟨fun | 284 => 151 | 129 => 170 | 317 => 169 | 318 => 171 | n => n, fun | 53 => 123 | 3 => 3 | 212 => 185 | 0 => 0 | 4 => 4 | 46 => 103 | 5 => 5 | 9 => 9 | n => n, fun | 17 => 1 | n => n⟩
theorem Tryz.laysM284 : Go.Proofs.LaysM.n284 Tryz.prog Tryz.laysM284_ren := {
  mixed := by kernel_rfl
  f129 := Tryz.func170.trans (congrArg some (by kernel_rfl))
  f284 := Tryz.func151.trans (congrArg some (by kernel_rfl))
  f317 := Tryz.func169.trans (congrArg some (by kernel_rfl))
  f318 := Tryz.func171.trans (congrArg some (by kernel_rfl))
  t0 := Tryz.underlying0
  a0 := Tryz.isAgg0
  z0 := Tryz.sizeOf0
  v0 := Tryz.zeroValue0
  t3 := Tryz.underlying3
  a3 := Tryz.isAgg3
  z3 := Tryz.sizeOf3
  v3 := Tryz.zeroValue3
  t4 := Tryz.underlying4
  a4 := Tryz.isAgg4
  z4 := Tryz.sizeOf4
  v4 := Tryz.zeroValue4
  t5 := Tryz.underlying5
  a5 := Tryz.isAgg5
  z5 := Tryz.sizeOf5
  v5 := Tryz.zeroValue5
  t9 := Tryz.underlying9
  a9 := Tryz.isAgg9
  z9 := Tryz.sizeOf9
  v9 := Tryz.zeroValue9
  t46 := Tryz.underlying103
  a46 := Tryz.isAgg103
  z46 := Tryz.sizeOf103
  v46 := Tryz.zeroValue103
  t53 := Tryz.underlying123
  a53 := Tryz.isAgg123
  z53 := Tryz.sizeOf123
  v53 := Tryz.zeroValue123
  t212 := Tryz.underlying185
  a212 := Tryz.isAgg185
  z212 := Tryz.sizeOf185
  v212 := Tryz.zeroValue185
  g17 := by kernel_rfl
  i0 := by kernel_rfl
  i3 := by kernel_rfl
  i4 := by kernel_rfl
  i5 := by kernel_rfl
  i9 := by kernel_rfl
  i46 := by kernel_rfl
  i53 := by kernel_rfl
  i212 := by kernel_rfl
  m17 := by kernel_rfl }
open Go.Lib in
theorem Tryz.internal_strconv_numDigits (u : Nat) (h1 : 1 ≤ u) (h2 : u < 18446744073709551616) (w : World) (htab : Lib.TabIs Tryz.prog w "internal/strconv.uint64pow10" .u64 Lib.pow10Tab) :
    Calls Tryz.prog 151 #[.int .u64 u] w fun e w' => e = .returned (.int .i64 (Lib.nDigits u)) ∧ w' = w := Any.internal_strconv_numDigits Tryz.laysM284 u h1 h2 w htab
def Tryz.lays285_ren : Go.Shelf.Ren := ⟨fun | 285 => 152 | n => n, fun | 37 => 159 | 53 => 123 | 3 => 3 | 4 => 4 | 51 => 120 | 9 => 9 | 5 => 5 | 0 => 0 | n => n, fun | n => n⟩
theorem Tryz.lays285 : Go.Proofs.Lays.n285 Tryz.prog Tryz.lays285_ren := {
  mixed := by kernel_rfl
  f285 := Tryz.func152.trans (congrArg some (by kernel_rfl))
  t0 := Tryz.underlying0
  a0 := Tryz.isAgg0
  z0 := Tryz.sizeOf0
  v0 := Tryz.zeroValue0
  t3 := Tryz.underlying3
  a3 := Tryz.isAgg3
  z3 := Tryz.sizeOf3
  v3 := Tryz.zeroValue3
  t4 := Tryz.underlying4
  a4 := Tryz.isAgg4
  z4 := Tryz.sizeOf4
  v4 := Tryz.zeroValue4
  t5 := Tryz.underlying5
  a5 := Tryz.isAgg5
  z5 := Tryz.sizeOf5
  v5 := Tryz.zeroValue5
  t9 := Tryz.underlying9
  a9 := Tryz.isAgg9
  z9 := Tryz.sizeOf9
  v9 := Tryz.zeroValue9
  t37 := Tryz.underlying159
  a37 := Tryz.isAgg159
  z37 := Tryz.sizeOf159
  v37 := Tryz.zeroValue159
  t51 := Tryz.underlying120
  a51 := Tryz.isAgg120
  z51 := Tryz.sizeOf120
  v51 := Tryz.zeroValue120
  t53 := Tryz.underlying123
  a53 := Tryz.isAgg123
  z53 := Tryz.sizeOf123
  v53 := Tryz.zeroValue123 }
open Go.RowKit Go.Sort Go.Lib in
theorem Tryz.internal_strconv_formatBase10 (blk off cap : Nat) (u : Nat) (d : Array UInt8) (w : World) (hH : Holds (fun (b : UInt8) => Value.int .u8 (b.toNat : Int)) w blk off d) (hu : u < 10 ^ d.size) (hu64 : u < 18446744073709551616) (hsz : d.size < 4611686018427387904) :
    Calls Tryz.prog 152 #[.slice (some ⟨blk, off, none⟩) d.size cap, .int .u64 u] w fun e w' =>
      e = .returned (.tuple #[]) ∧ ∃ (n v' : Nat) (dk : Array UInt8), w' = (putRow (fun (b : UInt8) => Value.int .u8 (b.toNat : Int)) w blk off dk).drewN n ∧ FmtInv d.size u 0 v' dk := Any.internal_strconv_formatBase10 Tryz.lays285 blk off cap u d w hH hu hu64 hsz
def Tryz.laysM171_ren : Go.Shelf.Ren := ⟨fun | 171 => 83 | 243 => 112 | 246 => 131 | 283 => 150 | 284 => 151 | 285 => 152 | 286 => 153 | 129 => 170 | 317 => 169 | 318 => 171 | 319 => 172 | 320 => 173 | 337 => 183 | 338 => 184 | n => n, fun | 3 => 3 | 9 => 9 | 2 => 2 | 4 => 4 | 171 => 169 | 0 => 0 | 53 => 123 | 37 => 159 | 5 => 5 | 173 => 172 | 212 => 185 | 51 => 120 | 20 => 20 | 213 => 186 | 46 => 103 | 232 => 202 | 233 => 203 | n => n, fun | 17 => 1 | 18 => 4 | 19 => 5 | n => n⟩
theorem Tryz.laysM171 : Go.Proofs.LaysM.n171 Tryz.prog Tryz.laysM171_ren := {
  mixed := by kernel_rfl
  f129 := Tryz.func170.trans (congrArg some (by kernel_rfl))
  f171 := Tryz.func83.trans (congrArg some (by kernel_rfl))
  f243 := Tryz.func112.trans (congrArg some (by kernel_rfl))
  f246 := Tryz.func131.trans (congrArg some (by kernel_rfl))
  f283 := Tryz.func150.trans (congrArg some (by kernel_rfl))
  f284 := Tryz.func151.trans (congrArg some (by kernel_rfl))
  f285 := Tryz.func152.trans (congrArg some (by kernel_rfl))
  f286 := Tryz.func153.trans (congrArg some (by kernel_rfl))
  f317 := Tryz.func169.trans (congrArg some (by kernel_rfl))
  f318 := Tryz.func171.trans (congrArg some (by kernel_rfl))
  f319 := Tryz.func172.trans (congrArg some (by kernel_rfl))
  f320 := Tryz.func173.trans (congrArg some (by kernel_rfl))
  f337 := Tryz.func183.trans (congrArg some (by kernel_rfl))
  f338 := Tryz.func184.trans (congrArg some (by kernel_rfl))
  t0 := Tryz.underlying0
  a0 := Tryz.isAgg0
  z0 := Tryz.sizeOf0
  v0 := Tryz.zeroValue0
  t2 := Tryz.underlying2
  a2 := Tryz.isAgg2
  z2 := Tryz.sizeOf2
  v2 := Tryz.zeroValue2
  t3 := Tryz.underlying3
  a3 := Tryz.isAgg3
  z3 := Tryz.sizeOf3
  v3 := Tryz.zeroValue3
  t4 := Tryz.underlying4
  a4 := Tryz.isAgg4
  z4 := Tryz.sizeOf4
  v4 := Tryz.zeroValue4
  t5 := Tryz.underlying5
  a5 := Tryz.isAgg5
  z5 := Tryz.sizeOf5
  v5 := Tryz.zeroValue5
  t9 := Tryz.underlying9
  a9 := Tryz.isAgg9
  z9 := Tryz.sizeOf9
  v9 := Tryz.zeroValue9
  t20 := Tryz.underlying20
  a20 := Tryz.isAgg20
  z20 := Tryz.sizeOf20
  v20 := Tryz.zeroValue20
  t37 := Tryz.underlying159
  a37 := Tryz.isAgg159
  z37 := Tryz.sizeOf159
  v37 := Tryz.zeroValue159
  t46 := Tryz.underlying103
  a46 := Tryz.isAgg103
  z46 := Tryz.sizeOf103
  v46 := Tryz.zeroValue103
  t51 := Tryz.underlying120
  a51 := Tryz.isAgg120
  z51 := Tryz.sizeOf120
  v51 := Tryz.zeroValue120
  t53 := Tryz.underlying123
  a53 := Tryz.isAgg123
  z53 := Tryz.sizeOf123
  v53 := Tryz.zeroValue123
  t171 := Tryz.underlying169
  a171 := Tryz.isAgg169
  z171 := Tryz.sizeOf169
  v171 := Tryz.zeroValue169
  t173 := Tryz.underlying172
  a173 := Tryz.isAgg172
  z173 := Tryz.sizeOf172
  v173 := Tryz.zeroValue172
  t212 := Tryz.underlying185
  a212 := Tryz.isAgg185
  z212 := Tryz.sizeOf185
  v212 := Tryz.zeroValue185
  t213 := Tryz.underlying186
  a213 := Tryz.isAgg186
  z213 := Tryz.sizeOf186
  t232 := Tryz.underlying202
  a232 := Tryz.isAgg202
  z232 := Tryz.sizeOf202
  v232 := Tryz.zeroValue202
  t233 := Tryz.underlying203
  a233 := Tryz.isAgg203
  z233 := Tryz.sizeOf203
  v233 := Tryz.zeroValue203
  g17 := by kernel_rfl
  g18 := by kernel_rfl
  g19 := by kernel_rfl
  i0 := by kernel_rfl
  i2 := by kernel_rfl
  i3 := by kernel_rfl
  i4 := by kernel_rfl
  i5 := by kernel_rfl
  i9 := by kernel_rfl
  i20 := by kernel_rfl
  i37 := by kernel_rfl
  i46 := by kernel_rfl
  i51 := by kernel_rfl
  i53 := by kernel_rfl
  i171 := by kernel_rfl
  i173 := by kernel_rfl
  i212 := by kernel_rfl
  i232 := by kernel_rfl
  i233 := by kernel_rfl
  m17 := by kernel_rfl
  m18 := by kernel_rfl
  m19 := by kernel_rfl }
open Go.RowKit Go.Sort Go.Lib in
theorem Tryz.strconv_Itoa (n : Int) (h0 : -9223372036854775808 ≤ n) (h1 : n ≤ 9223372036854775807) (w : World) (htab : Lib.TabIs Tryz.prog w "internal/strconv.uint64pow10" .u64 Lib.pow10Tab) :
    Calls Tryz.prog 83 #[.int .i64 n] w fun e w' => e = .returned (.string ⟨(Lib.itoa n).toArray⟩) ∧ ∃ k os, w' = grow (w.drewN k) os := Any.strconv_Itoa Tryz.laysM171 n h0 h1 w htab
def Tryz.laysC172_ren : Go.Shelf.Ren := ⟨fun | 172 => 113 | 244 => 132 | 245 => 133 | 247 => 154 | 279 => 155 | 280 => 156 | 281 => 157 | 282 => 158 | 287 => 165 | 316 => 174 | 171 => 83 | 205 => 175 | 321 => 180 | 322 => 181 | 243 => 112 | 246 => 131 | 283 => 150 | 284 => 151 | 285 => 152 | 286 => 153 | 129 => 170 | 317 => 169 | 318 => 171 | 319 => 172 | 320 => 173 | 337 => 183 | 338 => 184 | n => n, fun | 9 => 9 | 3 => 3 | 75 => 127 | 76 => 128 | 4 => 4 | 5 => 5 | 167 => 174 | 37 => 159 | 0 => 0 | 85 => 175 | 2 => 2 | 168 => 177 | 53 => 123 | 175 => 155 | 46 => 103 | 210 => 191 | 127 => 182 | 145 => 200 | 143 => 198 | 21 => 21 | 171 => 169 | 173 => 172 | 212 => 185 | 51 => 120 | 20 => 20 | 213 => 186 | 232 => 202 | 233 => 203 | 80 => 167 | n => n, fun | 15 => 2 | 16 => 3 | 17 => 1 | 18 => 4 | 19 => 5 | n => n⟩
theorem Tryz.laysC172 : Go.Proofs.LaysC.n172 Tryz.prog Tryz.laysC172_ren := {
  mixed := by kernel_rfl
  f129 := Tryz.func170.trans (congrArg some (by kernel_rfl))
  f171 := Tryz.func83.trans (congrArg some (by kernel_rfl))
  f172 := Tryz.func113.trans (congrArg some (by kernel_rfl))
  f205 := Tryz.func175.trans (congrArg some (by kernel_rfl))
  f243 := Tryz.func112.trans (congrArg some (by kernel_rfl))
  f244 := Tryz.func132.trans (congrArg some (by kernel_rfl))
  f245 := Tryz.func133.trans (congrArg some (by kernel_rfl))
  f246 := Tryz.func131.trans (congrArg some (by kernel_rfl))
  f247 := Tryz.func154.trans (congrArg some (by kernel_rfl))
  f279 := Tryz.func155.trans (congrArg some (by kernel_rfl))
  f280 := Tryz.func156.trans (congrArg some (by kernel_rfl))
  f281 := Tryz.func157.trans (congrArg some (by kernel_rfl))
  f282 := Tryz.func158.trans (congrArg some (by kernel_rfl))
  f283 := Tryz.func150.trans (congrArg some (by kernel_rfl))
  f284 := Tryz.func151.trans (congrArg some (by kernel_rfl))
  f285 := Tryz.func152.trans (congrArg some (by kernel_rfl))
  f286 := Tryz.func153.trans (congrArg some (by kernel_rfl))
  f287 := Tryz.func165.trans (congrArg some (by kernel_rfl))
  f316 := Tryz.func174.trans (congrArg some (by kernel_rfl))
  f317 := Tryz.func169.trans (congrArg some (by kernel_rfl))
  f318 := Tryz.func171.trans (congrArg some (by kernel_rfl))
  f319 := Tryz.func172.trans (congrArg some (by kernel_rfl))
  f320 := Tryz.func173.trans (congrArg some (by kernel_rfl))
  f321 := Tryz.func180.trans (congrArg some (by kernel_rfl))
  f322 := Tryz.func181.trans (congrArg some (by kernel_rfl))
  f337 := Tryz.func183.trans (congrArg some (by kernel_rfl))
  f338 := Tryz.func184.trans (congrArg some (by kernel_rfl))
  t0 := Tryz.underlying0
  a0 := Tryz.isAgg0
  z0 := Tryz.sizeOf0
  v0 := Tryz.zeroValue0
  t2 := Tryz.underlying2
  a2 := Tryz.isAgg2
  z2 := Tryz.sizeOf2
  v2 := Tryz.zeroValue2
  t3 := Tryz.underlying3
  a3 := Tryz.isAgg3
  z3 := Tryz.sizeOf3
  v3 := Tryz.zeroValue3
  t4 := Tryz.underlying4
  a4 := Tryz.isAgg4
  z4 := Tryz.sizeOf4
  v4 := Tryz.zeroValue4
  t5 := Tryz.underlying5
  a5 := Tryz.isAgg5
  z5 := Tryz.sizeOf5
  v5 := Tryz.zeroValue5
  t9 := Tryz.underlying9
  a9 := Tryz.isAgg9
  z9 := Tryz.sizeOf9
  v9 := Tryz.zeroValue9
  t20 := Tryz.underlying20
  a20 := Tryz.isAgg20
  z20 := Tryz.sizeOf20
  v20 := Tryz.zeroValue20
  t21 := Tryz.underlying21
  a21 := Tryz.isAgg21
  z21 := Tryz.sizeOf21
  v21 := Tryz.zeroValue21
  t37 := Tryz.underlying159
  a37 := Tryz.isAgg159
  z37 := Tryz.sizeOf159
  v37 := Tryz.zeroValue159
  t46 := Tryz.underlying103
  a46 := Tryz.isAgg103
  z46 := Tryz.sizeOf103
  v46 := Tryz.zeroValue103
  t51 := Tryz.underlying120
  a51 := Tryz.isAgg120
  z51 := Tryz.sizeOf120
  v51 := Tryz.zeroValue120
  t53 := Tryz.underlying123
  a53 := Tryz.isAgg123
  z53 := Tryz.sizeOf123
  v53 := Tryz.zeroValue123
  t75 := Tryz.underlying127
  a75 := Tryz.isAgg127
  z75 := Tryz.sizeOf127
  v75 := Tryz.zeroValue127
  t76 := Tryz.underlying128
  a76 := Tryz.isAgg128
  z76 := Tryz.sizeOf128
  v76 := Tryz.zeroValue128
  t85 := Tryz.underlying175
  a85 := Tryz.isAgg175
  z85 := Tryz.sizeOf175
  v85 := Tryz.zeroValue175
  t127 := Tryz.underlying182
  a127 := Tryz.isAgg182
  z127 := Tryz.sizeOf182
  v127 := Tryz.zeroValue182
  t143 := Tryz.underlying198
  a143 := Tryz.isAgg198
  z143 := Tryz.sizeOf198
  v143 := Tryz.zeroValue198
  t145 := Tryz.underlying200
  a145 := Tryz.isAgg200
  z145 := Tryz.sizeOf200
  v145 := Tryz.zeroValue200
  t167 := Tryz.underlying174
  a167 := Tryz.isAgg174
  z167 := Tryz.sizeOf174
  v167 := Tryz.zeroValue174
  t168 := Tryz.underlying177
  a168 := Tryz.isAgg177
  z168 := Tryz.sizeOf177
  v168 := Tryz.zeroValue177
  t171 := Tryz.underlying169
  a171 := Tryz.isAgg169
  z171 := Tryz.sizeOf169
  v171 := Tryz.zeroValue169
  t173 := Tryz.underlying172
  a173 := Tryz.isAgg172
  z173 := Tryz.sizeOf172
  v173 := Tryz.zeroValue172
  t175 := Tryz.underlying155
  a175 := Tryz.isAgg155
  z175 := Tryz.sizeOf155
  v175 := Tryz.zeroValue155
  t210 := Tryz.underlying191
  a210 := Tryz.isAgg191
  z210 := Tryz.sizeOf191
  v210 := Tryz.zeroValue191
  t212 := Tryz.underlying185
  a212 := Tryz.isAgg185
  z212 := Tryz.sizeOf185
  v212 := Tryz.zeroValue185
  t213 := Tryz.underlying186
  a213 := Tryz.isAgg186
  z213 := Tryz.sizeOf186
  t232 := Tryz.underlying202
  a232 := Tryz.isAgg202
  z232 := Tryz.sizeOf202
  v232 := Tryz.zeroValue202
  t233 := Tryz.underlying203
  a233 := Tryz.isAgg203
  z233 := Tryz.sizeOf203
  v233 := Tryz.zeroValue203
  g15 := by kernel_rfl
  g16 := by kernel_rfl
  g17 := by kernel_rfl
  g18 := by kernel_rfl
  g19 := by kernel_rfl
  t80 := Tryz.underlying167
  a80 := Tryz.isAgg167
  z80 := Tryz.sizeOf167
  v80 := Tryz.zeroValue167
  i0 := by kernel_rfl
  i2 := by kernel_rfl
  i3 := by kernel_rfl
  i4 := by kernel_rfl
  i5 := by kernel_rfl
  i9 := by kernel_rfl
  i20 := by kernel_rfl
  i21 := by kernel_rfl
  i37 := by kernel_rfl
  i46 := by kernel_rfl
  i51 := by kernel_rfl
  i53 := by kernel_rfl
  i75 := by kernel_rfl
  i76 := by kernel_rfl
  i80 := by kernel_rfl
  i85 := by kernel_rfl
  i127 := by kernel_rfl
  i143 := by kernel_rfl
  i145 := by kernel_rfl
  i167 := by kernel_rfl
  i168 := by kernel_rfl
  i171 := by kernel_rfl
  i173 := by kernel_rfl
  i175 := by kernel_rfl
  i210 := by kernel_rfl
  i212 := by kernel_rfl
  i232 := by kernel_rfl
  i233 := by kernel_rfl
  m15 := by kernel_rfl
  m16 := by kernel_rfl
  m17 := by kernel_rfl
  m18 := by kernel_rfl
  m19 := by kernel_rfl
  c0 := by kernel_rfl
  c2 := by kernel_rfl
  c3 := by kernel_rfl
  c4 := by kernel_rfl
  c5 := by kernel_rfl
  c9 := by kernel_rfl
  c20 := by kernel_rfl
  c21 := by kernel_rfl
  c37 := by kernel_rfl
  c46 := by kernel_rfl
  c51 := by kernel_rfl
  c53 := by kernel_rfl
  c75 := by kernel_rfl
  c76 := by kernel_rfl
  c80 := by kernel_rfl
  c85 := by kernel_rfl
  c127 := by kernel_rfl
  c143 := by kernel_rfl
  c145 := by kernel_rfl
  c167 := by kernel_rfl
  c168 := by kernel_rfl
  c171 := by kernel_rfl
  c173 := by kernel_rfl
  c175 := by kernel_rfl
  c210 := by kernel_rfl
  c212 := by kernel_rfl
  c213 := by kernel_rfl
  c232 := by kernel_rfl
  c233 := by kernel_rfl }
open Go.RowKit in
theorem Tryz.strconv_Atoi_ok (s : ByteArray) (hmax : s.size ≤ 9223372036854775806) (v : Int) (h : Lib.atoiAll s.data.toList = .ok v) (w : World) :
    Calls Tryz.prog 113 #[.string s] w fun e w' => e = .returned (.tuple #[.int .i64 v, .nilIface]) ∧ (w' = w ∨ ∃ t, w' = Lib.bytesWorld w 5 t) := Any.strconv_Atoi_ok Tryz.laysC172 s hmax v h w
open Go.RowKit in
theorem Tryz.strconv_Atoi_syntax_var (s : ByteArray) (hlim : s.size ≤ 281474976710656) (h : Lib.atoiAll s.data.toList = Lib.NumEnd.syntax) (tp : TypeId) (p : Value) (w : World) (hvar : w.var? Tryz.prog "strconv.ErrSyntax" = some #[.iface tp p]) :
    Calls Tryz.prog 113 #[.string s] w fun e w' => ∃ N, e = .returned (.tuple #[.int .i64 0, .iface 177 (.pointer (some ⟨N, 0, none⟩))]) ∧ w.heap.size ≤ N ∧ w'.heap[N]? = some (.cells #[.string ⟨#[65, 116, 111, 105]⟩, .string s, .iface tp p] 191 (0, 0)) ∧ Below w.heap.size w w' := Any.strconv_Atoi_syntax_var Tryz.laysC172 s hlim h tp p w hvar
open Go.RowKit in
theorem Tryz.strconv_Atoi_range_var (s : ByteArray) (hlim : s.size ≤ 281474976710656) (h : Lib.atoiAll s.data.toList = .range) (tp : TypeId) (p : Value) (w : World) (hvar : w.var? Tryz.prog "strconv.ErrRange" = some #[.iface tp p]) :
    Calls Tryz.prog 113 #[.string s] w fun e w' => ∃ N, e = .returned (.tuple #[.int .i64 (Lib.atoiSat s.data.toList), .iface 177 (.pointer (some ⟨N, 0, none⟩))]) ∧ w.heap.size ≤ N ∧ w'.heap[N]? = some (.cells #[.string ⟨#[65, 116, 111, 105]⟩, .string s, .iface tp p] 191 (0, 0)) ∧ Below w.heap.size w w' := Any.strconv_Atoi_range_var Tryz.laysC172 s hlim h tp p w hvar
def Tryz.laysPu14_ren : Go.Shelf.Ren := ⟨fun | 14 => 142 | 16 => 165 | 17 => 133 | 19 => 180 | 20 => 181 | 21 => 155 | 22 => 156 | 23 => 157 | 24 => 158 | 25 => 174 | 27 => 83 | 26 => 175 | 28 => 112 | 29 => 131 | 30 => 150 | 31 => 151 | 32 => 152 | 33 => 153 | 35 => 170 | 34 => 169 | 36 => 171 | 37 => 172 | 38 => 173 | 39 => 183 | 40 => 184 | n => n, fun | 9 => 9 | 3 => 3 | 22 => 123 | 24 => 127 | 25 => 155 | 4 => 4 | 34 => 174 | 5 => 5 | 36 => 103 | 37 => 159 | 0 => 0 | 39 => 177 | 21 => 21 | 44 => 191 | 47 => 182 | 50 => 200 | 48 => 198 | 2 => 2 | 52 => 169 | 55 => 172 | 59 => 185 | 60 => 120 | 20 => 20 | 61 => 186 | 65 => 202 | 66 => 203 | 67 => 167 | n => n, fun | 0 => 2 | 1 => 3 | 2 => 1 | 3 => 4 | 4 => 5 | n => n⟩
theorem Tryz.laysPu14 : Go.Proofs.LaysPu.n14 Tryz.prog Tryz.laysPu14_ren := {
  mixed := by kernel_rfl
  f14 := Tryz.func142.trans (congrArg some (by kernel_rfl))
  f16 := Tryz.func165.trans (congrArg some (by kernel_rfl))
  f17 := Tryz.func133.trans (congrArg some (by kernel_rfl))
  f19 := Tryz.func180.trans (congrArg some (by kernel_rfl))
  f20 := Tryz.func181.trans (congrArg some (by kernel_rfl))
  f21 := Tryz.func155.trans (congrArg some (by kernel_rfl))
  f22 := Tryz.func156.trans (congrArg some (by kernel_rfl))
  f23 := Tryz.func157.trans (congrArg some (by kernel_rfl))
  f24 := Tryz.func158.trans (congrArg some (by kernel_rfl))
  f25 := Tryz.func174.trans (congrArg some (by kernel_rfl))
  f26 := Tryz.func175.trans (congrArg some (by kernel_rfl))
  f27 := Tryz.func83.trans (congrArg some (by kernel_rfl))
  f28 := Tryz.func112.trans (congrArg some (by kernel_rfl))
  f29 := Tryz.func131.trans (congrArg some (by kernel_rfl))
  f30 := Tryz.func150.trans (congrArg some (by kernel_rfl))
  f31 := Tryz.func151.trans (congrArg some (by kernel_rfl))
  f32 := Tryz.func152.trans (congrArg some (by kernel_rfl))
  f33 := Tryz.func153.trans (congrArg some (by kernel_rfl))
  f34 := Tryz.func169.trans (congrArg some (by kernel_rfl))
  f35 := Tryz.func170.trans (congrArg some (by kernel_rfl))
  f36 := Tryz.func171.trans (congrArg some (by kernel_rfl))
  f37 := Tryz.func172.trans (congrArg some (by kernel_rfl))
  f38 := Tryz.func173.trans (congrArg some (by kernel_rfl))
  f39 := Tryz.func183.trans (congrArg some (by kernel_rfl))
  f40 := Tryz.func184.trans (congrArg some (by kernel_rfl))
  t0 := Tryz.underlying0
  a0 := Tryz.isAgg0
  z0 := Tryz.sizeOf0
  v0 := Tryz.zeroValue0
  i0 := by kernel_rfl
  t2 := Tryz.underlying2
  a2 := Tryz.isAgg2
  z2 := Tryz.sizeOf2
  v2 := Tryz.zeroValue2
  i2 := by kernel_rfl
  t3 := Tryz.underlying3
  a3 := Tryz.isAgg3
  z3 := Tryz.sizeOf3
  v3 := Tryz.zeroValue3
  i3 := by kernel_rfl
  t4 := Tryz.underlying4
  a4 := Tryz.isAgg4
  z4 := Tryz.sizeOf4
  v4 := Tryz.zeroValue4
  i4 := by kernel_rfl
  t5 := Tryz.underlying5
  a5 := Tryz.isAgg5
  z5 := Tryz.sizeOf5
  v5 := Tryz.zeroValue5
  i5 := by kernel_rfl
  t9 := Tryz.underlying9
  a9 := Tryz.isAgg9
  z9 := Tryz.sizeOf9
  v9 := Tryz.zeroValue9
  i9 := by kernel_rfl
  t20 := Tryz.underlying20
  a20 := Tryz.isAgg20
  z20 := Tryz.sizeOf20
  v20 := Tryz.zeroValue20
  i20 := by kernel_rfl
  t21 := Tryz.underlying21
  a21 := Tryz.isAgg21
  z21 := Tryz.sizeOf21
  v21 := Tryz.zeroValue21
  i21 := by kernel_rfl
  t22 := Tryz.underlying123
  a22 := Tryz.isAgg123
  z22 := Tryz.sizeOf123
  v22 := Tryz.zeroValue123
  i22 := by kernel_rfl
  t24 := Tryz.underlying127
  a24 := Tryz.isAgg127
  z24 := Tryz.sizeOf127
  v24 := Tryz.zeroValue127
  i24 := by kernel_rfl
  t25 := Tryz.underlying155
  a25 := Tryz.isAgg155
  z25 := Tryz.sizeOf155
  v25 := Tryz.zeroValue155
  i25 := by kernel_rfl
  t34 := Tryz.underlying174
  a34 := Tryz.isAgg174
  z34 := Tryz.sizeOf174
  v34 := Tryz.zeroValue174
  i34 := by kernel_rfl
  c34 := by kernel_rfl
  t36 := Tryz.underlying103
  a36 := Tryz.isAgg103
  z36 := Tryz.sizeOf103
  v36 := Tryz.zeroValue103
  i36 := by kernel_rfl
  t37 := Tryz.underlying159
  a37 := Tryz.isAgg159
  z37 := Tryz.sizeOf159
  v37 := Tryz.zeroValue159
  i37 := by kernel_rfl
  t39 := Tryz.underlying177
  a39 := Tryz.isAgg177
  z39 := Tryz.sizeOf177
  v39 := Tryz.zeroValue177
  i39 := by kernel_rfl
  t44 := Tryz.underlying191
  a44 := Tryz.isAgg191
  z44 := Tryz.sizeOf191
  v44 := Tryz.zeroValue191
  i44 := by kernel_rfl
  t47 := Tryz.underlying182
  a47 := Tryz.isAgg182
  z47 := Tryz.sizeOf182
  v47 := Tryz.zeroValue182
  i47 := by kernel_rfl
  t48 := Tryz.underlying198
  a48 := Tryz.isAgg198
  z48 := Tryz.sizeOf198
  v48 := Tryz.zeroValue198
  i48 := by kernel_rfl
  t50 := Tryz.underlying200
  a50 := Tryz.isAgg200
  z50 := Tryz.sizeOf200
  v50 := Tryz.zeroValue200
  i50 := by kernel_rfl
  t52 := Tryz.underlying169
  a52 := Tryz.isAgg169
  z52 := Tryz.sizeOf169
  v52 := Tryz.zeroValue169
  i52 := by kernel_rfl
  t55 := Tryz.underlying172
  a55 := Tryz.isAgg172
  z55 := Tryz.sizeOf172
  v55 := Tryz.zeroValue172
  i55 := by kernel_rfl
  t59 := Tryz.underlying185
  a59 := Tryz.isAgg185
  z59 := Tryz.sizeOf185
  v59 := Tryz.zeroValue185
  i59 := by kernel_rfl
  t60 := Tryz.underlying120
  a60 := Tryz.isAgg120
  z60 := Tryz.sizeOf120
  v60 := Tryz.zeroValue120
  i60 := by kernel_rfl
  t61 := Tryz.underlying186
  a61 := Tryz.isAgg186
  z61 := Tryz.sizeOf186
  t65 := Tryz.underlying202
  a65 := Tryz.isAgg202
  z65 := Tryz.sizeOf202
  v65 := Tryz.zeroValue202
  i65 := by kernel_rfl
  t66 := Tryz.underlying203
  a66 := Tryz.isAgg203
  z66 := Tryz.sizeOf203
  v66 := Tryz.zeroValue203
  i66 := by kernel_rfl
  t67 := Tryz.underlying167
  a67 := Tryz.isAgg167
  z67 := Tryz.sizeOf167
  v67 := Tryz.zeroValue167
  i67 := by kernel_rfl
  g0 := by kernel_rfl
  m0 := by kernel_rfl
  g1 := by kernel_rfl
  m1 := by kernel_rfl
  g2 := by kernel_rfl
  m2 := by kernel_rfl
  g3 := by kernel_rfl
  m3 := by kernel_rfl
  g4 := by kernel_rfl
  m4 := by kernel_rfl }
open Go.RowKit in
theorem Tryz.strconv_ParseUint_10_at64_ok (s : ByteArray) (hmax : s.size ≤ 9223372036854775806) (u : Nat) (h : Lib.parseUintB 64 s.data.toList = .ok u) (w : World) :
    Calls Tryz.prog 142 #[.string s, .int .i64 10, .int .i64 64] w fun e w' => e = .returned (.tuple #[.int .u64 u, .nilIface]) ∧ (w' = w ∨ w' = Lib.bytesWorld w 5 s) := Any.strconv_ParseUint_10_at64_ok Tryz.laysPu14 s hmax u h w
open Go.RowKit in
theorem Tryz.strconv_ParseUint_10_at64_syntax_var (s : ByteArray) (hlim : s.size ≤ 281474976710656) (h : Lib.parseUintB 64 s.data.toList = Lib.NumEnd.syntax) (tp : TypeId) (p : Value) (w : World) (hvar : w.var? Tryz.prog "strconv.ErrSyntax" = some #[.iface tp p]) :
    Calls Tryz.prog 142 #[.string s, .int .i64 10, .int .i64 64] w fun e w' => ∃ N, e = .returned (.tuple #[.int .u64 0, .iface 177 (.pointer (some ⟨N, 0, none⟩))]) ∧ w.heap.size ≤ N ∧ w'.heap[N]? = some (.cells #[.string ⟨#[80, 97, 114, 115, 101, 85, 105, 110, 116]⟩, .string s, .iface tp p] 191 (0, 0)) ∧ Below w.heap.size w w' := Any.strconv_ParseUint_10_at64_syntax_var Tryz.laysPu14 s hlim h tp p w hvar
open Go.RowKit in
theorem Tryz.strconv_ParseUint_10_at64_range_var (s : ByteArray) (hlim : s.size ≤ 281474976710656) (h : Lib.parseUintB 64 s.data.toList = .range) (tp : TypeId) (p : Value) (w : World) (hvar : w.var? Tryz.prog "strconv.ErrRange" = some #[.iface tp p]) :
    Calls Tryz.prog 142 #[.string s, .int .i64 10, .int .i64 64] w fun e w' => ∃ N, e = .returned (.tuple #[.int .u64 18446744073709551615, .iface 177 (.pointer (some ⟨N, 0, none⟩))]) ∧ w.heap.size ≤ N ∧ w'.heap[N]? = some (.cells #[.string ⟨#[80, 97, 114, 115, 101, 85, 105, 110, 116]⟩, .string s, .iface tp p] 191 (0, 0)) ∧ Below w.heap.size w w' := Any.strconv_ParseUint_10_at64_range_var Tryz.laysPu14 s hlim h tp p w hvar
def Tryz.lays217_ren : Go.Shelf.Ren := ⟨fun | 217 => 104 | 266 => 130 | n => n, fun | 9 => 9 | 5 => 5 | 3 => 3 | n => n, fun | n => n⟩
theorem Tryz.lays217 : Go.Proofs.Lays.n217 Tryz.prog Tryz.lays217_ren := {
  mixed := by kernel_rfl
  f217 := Tryz.func104.trans (congrArg some (by kernel_rfl))
  f266 := Tryz.func130.trans (congrArg some (by kernel_rfl))
  t3 := Tryz.underlying3
  a3 := Tryz.isAgg3
  z3 := Tryz.sizeOf3
  v3 := Tryz.zeroValue3
  t5 := Tryz.underlying5
  a5 := Tryz.isAgg5
  z5 := Tryz.sizeOf5
  v5 := Tryz.zeroValue5
  t9 := Tryz.underlying9
  a9 := Tryz.isAgg9
  z9 := Tryz.sizeOf9
  v9 := Tryz.zeroValue9 }
open Go.RowKit Go.Lib in
theorem Tryz.stringslite_IndexByte (s : ByteArray) (c : Int) (w : World) :
    Calls Tryz.prog 104 #[.string s, .int .u8 c] w fun e w' => e = .returned (.int .i64 (Lib.indexByte s.data.toList c.toNat.toUInt8)) ∧ w' = w := Any.stringslite_IndexByte Tryz.lays217 s c w
def Tryz.lays219_ren : Go.Shelf.Ren := ⟨fun | 219 => 159 | 217 => 104 | 225 => 176 | 224 => 177 | 267 => 178 | 266 => 130 | 314 => 185 | n => n, fun | 9 => 9 | 3 => 3 | 4 => 4 | 5 => 5 | 46 => 103 | 146 => 121 | 51 => 120 | n => n, fun | 1 => 0 | n => n⟩
theorem Tryz.lays219 : Go.Proofs.Lays.n219 Tryz.prog Tryz.lays219_ren := {
  mixed := by kernel_rfl
  f217 := Tryz.func104.trans (congrArg some (by kernel_rfl))
  f219 := Tryz.func159.trans (congrArg some (by kernel_rfl))
  f224 := Tryz.func177.trans (congrArg some (by kernel_rfl))
  f225 := Tryz.func176.trans (congrArg some (by kernel_rfl))
  f266 := Tryz.func130.trans (congrArg some (by kernel_rfl))
  f267 := Tryz.func178.trans (congrArg some (by kernel_rfl))
  f314 := Tryz.func185.trans (congrArg some (by kernel_rfl))
  t3 := Tryz.underlying3
  a3 := Tryz.isAgg3
  z3 := Tryz.sizeOf3
  v3 := Tryz.zeroValue3
  t4 := Tryz.underlying4
  a4 := Tryz.isAgg4
  z4 := Tryz.sizeOf4
  v4 := Tryz.zeroValue4
  t5 := Tryz.underlying5
  a5 := Tryz.isAgg5
  z5 := Tryz.sizeOf5
  v5 := Tryz.zeroValue5
  t9 := Tryz.underlying9
  a9 := Tryz.isAgg9
  z9 := Tryz.sizeOf9
  v9 := Tryz.zeroValue9
  t46 := Tryz.underlying103
  a46 := Tryz.isAgg103
  z46 := Tryz.sizeOf103
  v46 := Tryz.zeroValue103
  t51 := Tryz.underlying120
  a51 := Tryz.isAgg120
  z51 := Tryz.sizeOf120
  v51 := Tryz.zeroValue120
  t146 := Tryz.underlying121
  a146 := Tryz.isAgg121
  z146 := Tryz.sizeOf121
  v146 := Tryz.zeroValue121
  g1 := by kernel_rfl }
open Go.RowKit Go.Lib in
theorem Tryz.stringslite_Index_one (s : ByteArray) (c : UInt8) (w : World) :
    Calls Tryz.prog 159 #[.string s, .string ⟨#[c]⟩] w fun e w' => e = .returned (.int .i64 (Lib.indexByte s.data.toList c)) ∧ w' = w := Any.stringslite_Index_one Tryz.lays219 s c w
def Tryz.lays212_ren : Go.Shelf.Ren := ⟨fun | 212 => 82 | 263 => 110 | 264 => 111 | n => n, fun | 46 => 103 | 51 => 120 | 146 => 121 | 53 => 123 | 148 => 124 | n => n, fun | n => n⟩
theorem Tryz.lays212 : Go.Proofs.Lays.n212 Tryz.prog Tryz.lays212_ren := {
  mixed := by kernel_rfl
  f212 := Tryz.func82.trans (congrArg some (by kernel_rfl))
  f263 := Tryz.func110.trans (congrArg some (by kernel_rfl))
  f264 := Tryz.func111.trans (congrArg some (by kernel_rfl))
  t46 := Tryz.underlying103
  a46 := Tryz.isAgg103
  z46 := Tryz.sizeOf103
  v46 := Tryz.zeroValue103
  t51 := Tryz.underlying120
  a51 := Tryz.isAgg120
  z51 := Tryz.sizeOf120
  v51 := Tryz.zeroValue120
  t53 := Tryz.underlying123
  a53 := Tryz.isAgg123
  z53 := Tryz.sizeOf123
  v53 := Tryz.zeroValue123
  t146 := Tryz.underlying121
  a146 := Tryz.isAgg121
  z146 := Tryz.sizeOf121
  v146 := Tryz.zeroValue121
  t148 := Tryz.underlying124
  a148 := Tryz.isAgg124
  z148 := Tryz.sizeOf124
  v148 := Tryz.zeroValue124 }
open Go.RowKit Go.Lib in
theorem Tryz.bits_Mul (x y : Nat) (hx : x < 18446744073709551616) (hy : y < 18446744073709551616) (w : World) :
    Calls Tryz.prog 82 #[.int .u64 x, .int .u64 y] w fun e w' => e = .returned (.tuple #[.int .u64 ((x * y / 18446744073709551616 : Nat) : Int), .int .u64 ((x * y % 18446744073709551616 : Nat) : Int)]) ∧ w' = w := Any.bits_Mul Tryz.lays212 x y hx hy w

end Go.Proofs
