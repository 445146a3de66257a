/-
  DERIVED: THE SHELF's CONTRACTS AT THIS DUMP, IN PLAIN WORDS (tools/lay-plain.mjs out of 'K11Shelf.lean', which tools/lay-shelf.mjs wrote): THE SAME DECLARATIONS UNDER THE SAME NAMES: 'import', 'namespace', 'open', 'def', 'theorem' AND NOTHING ELSE: no command of the shelf's: FOR A HAND-IN. Each laying: the table of numbers ('.._ren') and one theorem, a field a fact of the dump's own or the kernel's comparison; each contract: ONE APPLICATION.
-/
import Derived.Shelf.Strings.Builder1
import Derived.Shelf.Small.Bits
import Derived.Shelf.Small.Strs
import Derived.Shelf.Small.Wraps
import Derived.Shelf.Strings.BuilderF
import Derived.Shelf.Strings.BuilderK
import Derived.Shelf.Strconv.Atoi
import Derived.Shelf.Strconv.Itoa0
import Derived.Shelf.Strconv.Itoa1
import Derived.Shelf.LaysM
import Derived.Shelf.Strconv.Itoa2
import Derived.Shelf.Strconv.Itoa3
import Derived.Shelf.Strconv.AtoiErrFast
import Derived.Shelf.Strconv.ParseIntEmpty
import Derived.Shelf.Strconv.AtoiFail
import Derived.Shelf.Strconv.Clone
import Derived.Shelf.Strconv.SyntaxError
import Derived.Shelf.LaysC
import Derived.Shelf.Strconv.ToError
import Derived.Shelf.Strconv.AtoiErr
import Derived.Shelf.Strconv.ErrVar
import Derived.Shelf.Strconv.Lower
import Derived.Shelf.Strconv.ParseUint10
import Derived.Shelf.Strconv.ParseUint10Empty
import Derived.Shelf.Strconv.ParseUint10Any
import Derived.Shelf.Strconv.ParseInt10
import Derived.Shelf.Strconv.AtoiLong
import Derived.Shelf.Strconv.AtoiInnerAll
import Derived.Shelf.Strconv.RangeError
import Derived.Shelf.Strconv.ToErrorRange
import Derived.Shelf.Strconv.AtoiAll
import Derived.Shelf.Strconv.ErrVarAll
import Derived.Shelf.Strconv.ParseUintEmpty
import Derived.Shelf.Strconv.ParseUint10b64
import Derived.Shelf.Strconv.ParseUint10b32
import Derived.Shelf.Strconv.ParseUint10b16
import Derived.Shelf.Strconv.ParseUint10b8
import Derived.Shelf.Strconv.ParseUint10At
import Derived.Shelf.Strconv.ParseInt10At64
import Derived.Shelf.Strconv.ParseInt10At32
import Derived.Shelf.Strconv.ParseInt10At16
import Derived.Shelf.Strconv.ParseInt10At8
import Derived.Shelf.Strconv.ParseInt10All
import Derived.Ground.MpProg
import Derived.Shelf.Pu.ParseUintPublic10
import Derived.Shelf.Pu.ErrVarParseUint
import Derived.Shelf.Strings.Search1
import Derived.Shelf.Strings.Search2
import Derived.Shelf.Strings.Cut
import Derived.Shelf.Strings.Shaped
import Derived.Shelf.Strings.Prefix
import Derived.Shelf.Strings.BuilderCap
import Derived.Test.YtcadmboomebdoaaGreatDoorProg
set_option linter.unusedVariables false
set_option linter.unusedSimpArgs false
namespace Go.Proofs
open Go.Shelf
def Tryz.lays106_ren : Go.Shelf.Ren := ⟨fun | 106 => 110 | 213 => 149 | 265 => 201 | n => n, fun | 9 => 9 | 3 => 3 | n => n, fun | n => n⟩
theorem Tryz.lays106 : Go.Proofs.Lays.n106 Tryz.prog Tryz.lays106_ren := {
  mixed := by kernel_rfl
  f106 := Tryz.func110.trans (congrArg some (by kernel_rfl))
  f213 := Tryz.func149.trans (congrArg some (by kernel_rfl))
  f265 := Tryz.func201.trans (congrArg some (by kernel_rfl))
  t3 := Tryz.underlying3
  a3 := Tryz.isAgg3
  z3 := Tryz.sizeOf3
  v3 := Tryz.zeroValue3
  t9 := Tryz.underlying9
  a9 := Tryz.isAgg9
  z9 := Tryz.sizeOf9
  v9 := Tryz.zeroValue9 }
open Go.RowKit in
theorem Tryz.strings_Compare (a b : ByteArray) (w : World) :
    Calls Tryz.prog 110 #[.string a, .string b] w fun e w' => e = .returned (.int .i64 (Lib.compareBytes a.data.toList b.data.toList)) ∧ w' = w := Any.strings_Compare Tryz.lays106 a b w
def Tryz.lays129_ren : Go.Shelf.Ren := ⟨fun | 129 => 168 | n => n, fun | 53 => 178 | 3 => 3 | 4 => 4 | 46 => 156 | 5 => 5 | 9 => 9 | n => n, fun | n => n⟩
theorem Tryz.lays129 : Go.Proofs.Lays.n129 Tryz.prog Tryz.lays129_ren := {
  mixed := by kernel_rfl
  f129 := Tryz.func168.trans (congrArg some (by kernel_rfl))
  t3 := Tryz.underlying3
  a3 := Tryz.isAgg3
  z3 := Tryz.sizeOf3
  v3 := Tryz.zeroValue3
  t4 := Tryz.underlying4
  a4 := Tryz.isAgg4
  z4 := Tryz.sizeOf4
  v4 := Tryz.zeroValue4
  t5 := Tryz.underlying5
  a5 := Tryz.isAgg5
  z5 := Tryz.sizeOf5
  v5 := Tryz.zeroValue5
  t9 := Tryz.underlying9
  a9 := Tryz.isAgg9
  z9 := Tryz.sizeOf9
  v9 := Tryz.zeroValue9
  t46 := Tryz.underlying156
  a46 := Tryz.isAgg156
  z46 := Tryz.sizeOf156
  v46 := Tryz.zeroValue156
  t53 := Tryz.underlying178
  a53 := Tryz.isAgg178
  z53 := Tryz.sizeOf178
  v53 := Tryz.zeroValue178 }
theorem Tryz.bits_Len64 (x : Int) (w : World) (h0 : 0 ≤ x) (h1 : x ≤ 18446744073709551615) :
    Calls Tryz.prog 168 #[.int .u64 x] w fun e w' => e = .returned (.int .i64 (Lib.bitLen x.toNat)) ∧ w' = w := Any.bits_Len64 Tryz.lays129 x w h0 h1
def Tryz.lays283_ren : Go.Shelf.Ren := ⟨fun | 283 => 235 | n => n, fun | 3 => 3 | 9 => 9 | 4 => 4 | n => n, fun | n => n⟩
theorem Tryz.lays283 : Go.Proofs.Lays.n283 Tryz.prog Tryz.lays283_ren := {
  mixed := by kernel_rfl
  f283 := Tryz.func235.trans (congrArg some (by kernel_rfl))
  t3 := Tryz.underlying3
  a3 := Tryz.isAgg3
  z3 := Tryz.sizeOf3
  v3 := Tryz.zeroValue3
  t4 := Tryz.underlying4
  a4 := Tryz.isAgg4
  z4 := Tryz.sizeOf4
  v4 := Tryz.zeroValue4
  t9 := Tryz.underlying9
  a9 := Tryz.isAgg9
  z9 := Tryz.sizeOf9
  v9 := Tryz.zeroValue9 }
open Go.Lib in
theorem Tryz.internal_strconv_small (i : Nat) (h : i < 100) (w : World) :
    Calls Tryz.prog 235 #[.int .i64 i] w fun e w' => e = .returned (.string ⟨(Lib.decDigits i).toArray⟩) ∧ w' = w := Any.internal_strconv_small Tryz.lays283 i h w
def Tryz.laysM284_ren : Go.Shelf.Ren := ⟨fun | 284 => 236 | 129 => 168 | 317 => 252 | 318 => 253 | n => n, fun | 53 => 178 | 3 => 3 | 212 => 272 | 0 => 0 | 4 => 4 | 46 => 156 | 5 => 5 | 9 => 9 | n => n, fun | 17 => 3 | n => n⟩
theorem Tryz.laysM284 : Go.Proofs.LaysM.n284 Tryz.prog Tryz.laysM284_ren := {
  mixed := by kernel_rfl
  f129 := Tryz.func168.trans (congrArg some (by kernel_rfl))
  f284 := Tryz.func236.trans (congrArg some (by kernel_rfl))
  f317 := Tryz.func252.trans (congrArg some (by kernel_rfl))
  f318 := Tryz.func253.trans (congrArg some (by kernel_rfl))
  t0 := Tryz.underlying0
  a0 := Tryz.isAgg0
  z0 := Tryz.sizeOf0
  v0 := Tryz.zeroValue0
  t3 := Tryz.underlying3
  a3 := Tryz.isAgg3
  z3 := Tryz.sizeOf3
  v3 := Tryz.zeroValue3
  t4 := Tryz.underlying4
  a4 := Tryz.isAgg4
  z4 := Tryz.sizeOf4
  v4 := Tryz.zeroValue4
  t5 := Tryz.underlying5
  a5 := Tryz.isAgg5
  z5 := Tryz.sizeOf5
  v5 := Tryz.zeroValue5
  t9 := Tryz.underlying9
  a9 := Tryz.isAgg9
  z9 := Tryz.sizeOf9
  v9 := Tryz.zeroValue9
  t46 := Tryz.underlying156
  a46 := Tryz.isAgg156
  z46 := Tryz.sizeOf156
  v46 := Tryz.zeroValue156
  t53 := Tryz.underlying178
  a53 := Tryz.isAgg178
  z53 := Tryz.sizeOf178
  v53 := Tryz.zeroValue178
  t212 := Tryz.underlying272
  a212 := Tryz.isAgg272
  z212 := Tryz.sizeOf272
  v212 := Tryz.zeroValue272
  g17 := by kernel_rfl
  i0 := by kernel_rfl
  i3 := by kernel_rfl
  i4 := by kernel_rfl
  i5 := by kernel_rfl
  i9 := by kernel_rfl
  i46 := by kernel_rfl
  i53 := by kernel_rfl
  i212 := by kernel_rfl
  m17 := by kernel_rfl }
open Go.Lib in
theorem Tryz.internal_strconv_numDigits (u : Nat) (h1 : 1 ≤ u) (h2 : u < 18446744073709551616) (w : World) (htab : Lib.TabIs Tryz.prog w "internal/strconv.uint64pow10" .u64 Lib.pow10Tab) :
    Calls Tryz.prog 236 #[.int .u64 u] w fun e w' => e = .returned (.int .i64 (Lib.nDigits u)) ∧ w' = w := Any.internal_strconv_numDigits Tryz.laysM284 u h1 h2 w htab
def Tryz.lays285_ren : Go.Shelf.Ren := ⟨fun | 285 => 237 | n => n, fun | 37 => 183 | 53 => 178 | 3 => 3 | 4 => 4 | 51 => 200 | 9 => 9 | 5 => 5 | 0 => 0 | n => n, fun | n => n⟩
theorem Tryz.lays285 : Go.Proofs.Lays.n285 Tryz.prog Tryz.lays285_ren := {
  mixed := by kernel_rfl
  f285 := Tryz.func237.trans (congrArg some (by kernel_rfl))
  t0 := Tryz.underlying0
  a0 := Tryz.isAgg0
  z0 := Tryz.sizeOf0
  v0 := Tryz.zeroValue0
  t3 := Tryz.underlying3
  a3 := Tryz.isAgg3
  z3 := Tryz.sizeOf3
  v3 := Tryz.zeroValue3
  t4 := Tryz.underlying4
  a4 := Tryz.isAgg4
  z4 := Tryz.sizeOf4
  v4 := Tryz.zeroValue4
  t5 := Tryz.underlying5
  a5 := Tryz.isAgg5
  z5 := Tryz.sizeOf5
  v5 := Tryz.zeroValue5
  t9 := Tryz.underlying9
  a9 := Tryz.isAgg9
  z9 := Tryz.sizeOf9
  v9 := Tryz.zeroValue9
  t37 := Tryz.underlying183
  a37 := Tryz.isAgg183
  z37 := Tryz.sizeOf183
  v37 := Tryz.zeroValue183
  t51 := Tryz.underlying200
  a51 := Tryz.isAgg200
  z51 := Tryz.sizeOf200
  v51 := Tryz.zeroValue200
  t53 := Tryz.underlying178
  a53 := Tryz.isAgg178
  z53 := Tryz.sizeOf178
  v53 := Tryz.zeroValue178 }
open Go.RowKit Go.Sort Go.Lib in
theorem Tryz.internal_strconv_formatBase10 (blk off cap : Nat) (u : Nat) (d : Array UInt8) (w : World) (hH : Holds (fun (b : UInt8) => Value.int .u8 (b.toNat : Int)) w blk off d) (hu : u < 10 ^ d.size) (hu64 : u < 18446744073709551616) (hsz : d.size < 4611686018427387904) :
    Calls Tryz.prog 237 #[.slice (some ⟨blk, off, none⟩) d.size cap, .int .u64 u] w fun e w' =>
      e = .returned (.tuple #[]) ∧ ∃ (n v' : Nat) (dk : Array UInt8), w' = (putRow (fun (b : UInt8) => Value.int .u8 (b.toNat : Int)) w blk off dk).drewN n ∧ FmtInv d.size u 0 v' dk := Any.internal_strconv_formatBase10 Tryz.lays285 blk off cap u d w hH hu hu64 hsz
def Tryz.laysM171_ren : Go.Shelf.Ren := ⟨fun | 171 => 116 | 243 => 158 | 246 => 208 | 283 => 235 | 284 => 236 | 285 => 237 | 286 => 238 | 129 => 168 | 317 => 252 | 318 => 253 | 319 => 254 | 320 => 255 | 337 => 259 | 338 => 260 | n => n, fun | 3 => 3 | 9 => 9 | 2 => 2 | 4 => 4 | 171 => 252 | 0 => 0 | 53 => 178 | 37 => 183 | 5 => 5 | 173 => 254 | 212 => 272 | 51 => 200 | 20 => 20 | 213 => 273 | 46 => 156 | 232 => 281 | 233 => 282 | n => n, fun | 17 => 3 | 18 => 4 | 19 => 5 | n => n⟩
theorem Tryz.laysM171 : Go.Proofs.LaysM.n171 Tryz.prog Tryz.laysM171_ren := {
  mixed := by kernel_rfl
  f129 := Tryz.func168.trans (congrArg some (by kernel_rfl))
  f171 := Tryz.func116.trans (congrArg some (by kernel_rfl))
  f243 := Tryz.func158.trans (congrArg some (by kernel_rfl))
  f246 := Tryz.func208.trans (congrArg some (by kernel_rfl))
  f283 := Tryz.func235.trans (congrArg some (by kernel_rfl))
  f284 := Tryz.func236.trans (congrArg some (by kernel_rfl))
  f285 := Tryz.func237.trans (congrArg some (by kernel_rfl))
  f286 := Tryz.func238.trans (congrArg some (by kernel_rfl))
  f317 := Tryz.func252.trans (congrArg some (by kernel_rfl))
  f318 := Tryz.func253.trans (congrArg some (by kernel_rfl))
  f319 := Tryz.func254.trans (congrArg some (by kernel_rfl))
  f320 := Tryz.func255.trans (congrArg some (by kernel_rfl))
  f337 := Tryz.func259.trans (congrArg some (by kernel_rfl))
  f338 := Tryz.func260.trans (congrArg some (by kernel_rfl))
  t0 := Tryz.underlying0
  a0 := Tryz.isAgg0
  z0 := Tryz.sizeOf0
  v0 := Tryz.zeroValue0
  t2 := Tryz.underlying2
  a2 := Tryz.isAgg2
  z2 := Tryz.sizeOf2
  v2 := Tryz.zeroValue2
  t3 := Tryz.underlying3
  a3 := Tryz.isAgg3
  z3 := Tryz.sizeOf3
  v3 := Tryz.zeroValue3
  t4 := Tryz.underlying4
  a4 := Tryz.isAgg4
  z4 := Tryz.sizeOf4
  v4 := Tryz.zeroValue4
  t5 := Tryz.underlying5
  a5 := Tryz.isAgg5
  z5 := Tryz.sizeOf5
  v5 := Tryz.zeroValue5
  t9 := Tryz.underlying9
  a9 := Tryz.isAgg9
  z9 := Tryz.sizeOf9
  v9 := Tryz.zeroValue9
  t20 := Tryz.underlying20
  a20 := Tryz.isAgg20
  z20 := Tryz.sizeOf20
  v20 := Tryz.zeroValue20
  t37 := Tryz.underlying183
  a37 := Tryz.isAgg183
  z37 := Tryz.sizeOf183
  v37 := Tryz.zeroValue183
  t46 := Tryz.underlying156
  a46 := Tryz.isAgg156
  z46 := Tryz.sizeOf156
  v46 := Tryz.zeroValue156
  t51 := Tryz.underlying200
  a51 := Tryz.isAgg200
  z51 := Tryz.sizeOf200
  v51 := Tryz.zeroValue200
  t53 := Tryz.underlying178
  a53 := Tryz.isAgg178
  z53 := Tryz.sizeOf178
  v53 := Tryz.zeroValue178
  t171 := Tryz.underlying252
  a171 := Tryz.isAgg252
  z171 := Tryz.sizeOf252
  v171 := Tryz.zeroValue252
  t173 := Tryz.underlying254
  a173 := Tryz.isAgg254
  z173 := Tryz.sizeOf254
  v173 := Tryz.zeroValue254
  t212 := Tryz.underlying272
  a212 := Tryz.isAgg272
  z212 := Tryz.sizeOf272
  v212 := Tryz.zeroValue272
  t213 := Tryz.underlying273
  a213 := Tryz.isAgg273
  z213 := Tryz.sizeOf273
  t232 := Tryz.underlying281
  a232 := Tryz.isAgg281
  z232 := Tryz.sizeOf281
  v232 := Tryz.zeroValue281
  t233 := Tryz.underlying282
  a233 := Tryz.isAgg282
  z233 := Tryz.sizeOf282
  v233 := Tryz.zeroValue282
  g17 := by kernel_rfl
  g18 := by kernel_rfl
  g19 := by kernel_rfl
  i0 := by kernel_rfl
  i2 := by kernel_rfl
  i3 := by kernel_rfl
  i4 := by kernel_rfl
  i5 := by kernel_rfl
  i9 := by kernel_rfl
  i20 := by kernel_rfl
  i37 := by kernel_rfl
  i46 := by kernel_rfl
  i51 := by kernel_rfl
  i53 := by kernel_rfl
  i171 := by kernel_rfl
  i173 := by kernel_rfl
  i212 := by kernel_rfl
  i232 := by kernel_rfl
  i233 := by kernel_rfl
  m17 := by kernel_rfl
  m18 := by kernel_rfl
  m19 := by kernel_rfl }
open Go.RowKit Go.Sort Go.Lib in
theorem Tryz.strconv_Itoa (n : Int) (h0 : -9223372036854775808 ≤ n) (h1 : n ≤ 9223372036854775807) (w : World) (htab : Lib.TabIs Tryz.prog w "internal/strconv.uint64pow10" .u64 Lib.pow10Tab) :
    Calls Tryz.prog 116 #[.int .i64 n] w fun e w' => e = .returned (.string ⟨(Lib.itoa n).toArray⟩) ∧ ∃ k os, w' = grow (w.drewN k) os := Any.strconv_Itoa Tryz.laysM171 n h0 h1 w htab
def Tryz.laysC172_ren : Go.Shelf.Ren := ⟨fun | 172 => 150 | 244 => 202 | 245 => 203 | 247 => 227 | 279 => 228 | 280 => 229 | 281 => 230 | 282 => 231 | 287 => 204 | 316 => 250 | 171 => 116 | 205 => 251 | 321 => 232 | 322 => 233 | 243 => 158 | 246 => 208 | 283 => 235 | 284 => 236 | 285 => 237 | 286 => 238 | 129 => 168 | 317 => 252 | 318 => 253 | 319 => 254 | 320 => 255 | 337 => 259 | 338 => 260 | n => n, fun | 9 => 9 | 3 => 3 | 75 => 175 | 76 => 176 | 4 => 4 | 5 => 5 | 167 => 242 | 37 => 183 | 0 => 0 | 85 => 243 | 2 => 2 | 168 => 245 | 53 => 178 | 175 => 179 | 46 => 156 | 210 => 269 | 127 => 226 | 145 => 279 | 143 => 277 | 21 => 21 | 171 => 252 | 173 => 254 | 212 => 272 | 51 => 200 | 20 => 20 | 213 => 273 | 232 => 281 | 233 => 282 | 80 => 191 | n => n, fun | 15 => 1 | 16 => 2 | 17 => 3 | 18 => 4 | 19 => 5 | n => n⟩
theorem Tryz.laysC172 : Go.Proofs.LaysC.n172 Tryz.prog Tryz.laysC172_ren := {
  mixed := by kernel_rfl
  f129 := Tryz.func168.trans (congrArg some (by kernel_rfl))
  f171 := Tryz.func116.trans (congrArg some (by kernel_rfl))
  f172 := Tryz.func150.trans (congrArg some (by kernel_rfl))
  f205 := Tryz.func251.trans (congrArg some (by kernel_rfl))
  f243 := Tryz.func158.trans (congrArg some (by kernel_rfl))
  f244 := Tryz.func202.trans (congrArg some (by kernel_rfl))
  f245 := Tryz.func203.trans (congrArg some (by kernel_rfl))
  f246 := Tryz.func208.trans (congrArg some (by kernel_rfl))
  f247 := Tryz.func227.trans (congrArg some (by kernel_rfl))
  f279 := Tryz.func228.trans (congrArg some (by kernel_rfl))
  f280 := Tryz.func229.trans (congrArg some (by kernel_rfl))
  f281 := Tryz.func230.trans (congrArg some (by kernel_rfl))
  f282 := Tryz.func231.trans (congrArg some (by kernel_rfl))
  f283 := Tryz.func235.trans (congrArg some (by kernel_rfl))
  f284 := Tryz.func236.trans (congrArg some (by kernel_rfl))
  f285 := Tryz.func237.trans (congrArg some (by kernel_rfl))
  f286 := Tryz.func238.trans (congrArg some (by kernel_rfl))
  f287 := Tryz.func204.trans (congrArg some (by kernel_rfl))
  f316 := Tryz.func250.trans (congrArg some (by kernel_rfl))
  f317 := Tryz.func252.trans (congrArg some (by kernel_rfl))
  f318 := Tryz.func253.trans (congrArg some (by kernel_rfl))
  f319 := Tryz.func254.trans (congrArg some (by kernel_rfl))
  f320 := Tryz.func255.trans (congrArg some (by kernel_rfl))
  f321 := Tryz.func232.trans (congrArg some (by kernel_rfl))
  f322 := Tryz.func233.trans (congrArg some (by kernel_rfl))
  f337 := Tryz.func259.trans (congrArg some (by kernel_rfl))
  f338 := Tryz.func260.trans (congrArg some (by kernel_rfl))
  t0 := Tryz.underlying0
  a0 := Tryz.isAgg0
  z0 := Tryz.sizeOf0
  v0 := Tryz.zeroValue0
  t2 := Tryz.underlying2
  a2 := Tryz.isAgg2
  z2 := Tryz.sizeOf2
  v2 := Tryz.zeroValue2
  t3 := Tryz.underlying3
  a3 := Tryz.isAgg3
  z3 := Tryz.sizeOf3
  v3 := Tryz.zeroValue3
  t4 := Tryz.underlying4
  a4 := Tryz.isAgg4
  z4 := Tryz.sizeOf4
  v4 := Tryz.zeroValue4
  t5 := Tryz.underlying5
  a5 := Tryz.isAgg5
  z5 := Tryz.sizeOf5
  v5 := Tryz.zeroValue5
  t9 := Tryz.underlying9
  a9 := Tryz.isAgg9
  z9 := Tryz.sizeOf9
  v9 := Tryz.zeroValue9
  t20 := Tryz.underlying20
  a20 := Tryz.isAgg20
  z20 := Tryz.sizeOf20
  v20 := Tryz.zeroValue20
  t21 := Tryz.underlying21
  a21 := Tryz.isAgg21
  z21 := Tryz.sizeOf21
  v21 := Tryz.zeroValue21
  t37 := Tryz.underlying183
  a37 := Tryz.isAgg183
  z37 := Tryz.sizeOf183
  v37 := Tryz.zeroValue183
  t46 := Tryz.underlying156
  a46 := Tryz.isAgg156
  z46 := Tryz.sizeOf156
  v46 := Tryz.zeroValue156
  t51 := Tryz.underlying200
  a51 := Tryz.isAgg200
  z51 := Tryz.sizeOf200
  v51 := Tryz.zeroValue200
  t53 := Tryz.underlying178
  a53 := Tryz.isAgg178
  z53 := Tryz.sizeOf178
  v53 := Tryz.zeroValue178
  t75 := Tryz.underlying175
  a75 := Tryz.isAgg175
  z75 := Tryz.sizeOf175
  v75 := Tryz.zeroValue175
  t76 := Tryz.underlying176
  a76 := Tryz.isAgg176
  z76 := Tryz.sizeOf176
  v76 := Tryz.zeroValue176
  t85 := Tryz.underlying243
  a85 := Tryz.isAgg243
  z85 := Tryz.sizeOf243
  v85 := Tryz.zeroValue243
  t127 := Tryz.underlying226
  a127 := Tryz.isAgg226
  z127 := Tryz.sizeOf226
  v127 := Tryz.zeroValue226
  t143 := Tryz.underlying277
  a143 := Tryz.isAgg277
  z143 := Tryz.sizeOf277
  v143 := Tryz.zeroValue277
  t145 := Tryz.underlying279
  a145 := Tryz.isAgg279
  z145 := Tryz.sizeOf279
  v145 := Tryz.zeroValue279
  t167 := Tryz.underlying242
  a167 := Tryz.isAgg242
  z167 := Tryz.sizeOf242
  v167 := Tryz.zeroValue242
  t168 := Tryz.underlying245
  a168 := Tryz.isAgg245
  z168 := Tryz.sizeOf245
  v168 := Tryz.zeroValue245
  t171 := Tryz.underlying252
  a171 := Tryz.isAgg252
  z171 := Tryz.sizeOf252
  v171 := Tryz.zeroValue252
  t173 := Tryz.underlying254
  a173 := Tryz.isAgg254
  z173 := Tryz.sizeOf254
  v173 := Tryz.zeroValue254
  t175 := Tryz.underlying179
  a175 := Tryz.isAgg179
  z175 := Tryz.sizeOf179
  v175 := Tryz.zeroValue179
  t210 := Tryz.underlying269
  a210 := Tryz.isAgg269
  z210 := Tryz.sizeOf269
  v210 := Tryz.zeroValue269
  t212 := Tryz.underlying272
  a212 := Tryz.isAgg272
  z212 := Tryz.sizeOf272
  v212 := Tryz.zeroValue272
  t213 := Tryz.underlying273
  a213 := Tryz.isAgg273
  z213 := Tryz.sizeOf273
  t232 := Tryz.underlying281
  a232 := Tryz.isAgg281
  z232 := Tryz.sizeOf281
  v232 := Tryz.zeroValue281
  t233 := Tryz.underlying282
  a233 := Tryz.isAgg282
  z233 := Tryz.sizeOf282
  v233 := Tryz.zeroValue282
  g15 := by kernel_rfl
  g16 := by kernel_rfl
  g17 := by kernel_rfl
  g18 := by kernel_rfl
  g19 := by kernel_rfl
  t80 := Tryz.underlying191
  a80 := Tryz.isAgg191
  z80 := Tryz.sizeOf191
  v80 := Tryz.zeroValue191
  i0 := by kernel_rfl
  i2 := by kernel_rfl
  i3 := by kernel_rfl
  i4 := by kernel_rfl
  i5 := by kernel_rfl
  i9 := by kernel_rfl
  i20 := by kernel_rfl
  i21 := by kernel_rfl
  i37 := by kernel_rfl
  i46 := by kernel_rfl
  i51 := by kernel_rfl
  i53 := by kernel_rfl
  i75 := by kernel_rfl
  i76 := by kernel_rfl
  i80 := by kernel_rfl
  i85 := by kernel_rfl
  i127 := by kernel_rfl
  i143 := by kernel_rfl
  i145 := by kernel_rfl
  i167 := by kernel_rfl
  i168 := by kernel_rfl
  i171 := by kernel_rfl
  i173 := by kernel_rfl
  i175 := by kernel_rfl
  i210 := by kernel_rfl
  i212 := by kernel_rfl
  i232 := by kernel_rfl
  i233 := by kernel_rfl
  m15 := by kernel_rfl
  m16 := by kernel_rfl
  m17 := by kernel_rfl
  m18 := by kernel_rfl
  m19 := by kernel_rfl
  c0 := by kernel_rfl
  c2 := by kernel_rfl
  c3 := by kernel_rfl
  c4 := by kernel_rfl
  c5 := by kernel_rfl
  c9 := by kernel_rfl
  c20 := by kernel_rfl
  c21 := by kernel_rfl
  c37 := by kernel_rfl
  c46 := by kernel_rfl
  c51 := by kernel_rfl
  c53 := by kernel_rfl
  c75 := by kernel_rfl
  c76 := by kernel_rfl
  c80 := by kernel_rfl
  c85 := by kernel_rfl
  c127 := by kernel_rfl
  c143 := by kernel_rfl
  c145 := by kernel_rfl
  c167 := by kernel_rfl
  c168 := by kernel_rfl
  c171 := by kernel_rfl
  c173 := by kernel_rfl
  c175 := by kernel_rfl
  c210 := by kernel_rfl
  c212 := by kernel_rfl
  c213 := by kernel_rfl
  c232 := by kernel_rfl
  c233 := by kernel_rfl }
open Go.RowKit in
theorem Tryz.strconv_Atoi_ok (s : ByteArray) (hmax : s.size ≤ 9223372036854775806) (v : Int) (h : Lib.atoiAll s.data.toList = .ok v) (w : World) :
    Calls Tryz.prog 150 #[.string s] w fun e w' => e = .returned (.tuple #[.int .i64 v, .nilIface]) ∧ (w' = w ∨ ∃ t, w' = Lib.bytesWorld w 5 t) := Any.strconv_Atoi_ok Tryz.laysC172 s hmax v h w
open Go.RowKit in
theorem Tryz.strconv_Atoi_syntax_var (s : ByteArray) (hlim : s.size ≤ 281474976710656) (h : Lib.atoiAll s.data.toList = Lib.NumEnd.syntax) (tp : TypeId) (p : Value) (w : World) (hvar : w.var? Tryz.prog "strconv.ErrSyntax" = some #[.iface tp p]) :
    Calls Tryz.prog 150 #[.string s] w fun e w' => ∃ N, e = .returned (.tuple #[.int .i64 0, .iface 245 (.pointer (some ⟨N, 0, none⟩))]) ∧ w.heap.size ≤ N ∧ w'.heap[N]? = some (.cells #[.string ⟨#[65, 116, 111, 105]⟩, .string s, .iface tp p] 269 (0, 0)) ∧ Below w.heap.size w w' := Any.strconv_Atoi_syntax_var Tryz.laysC172 s hlim h tp p w hvar
open Go.RowKit in
theorem Tryz.strconv_Atoi_range_var (s : ByteArray) (hlim : s.size ≤ 281474976710656) (h : Lib.atoiAll s.data.toList = .range) (tp : TypeId) (p : Value) (w : World) (hvar : w.var? Tryz.prog "strconv.ErrRange" = some #[.iface tp p]) :
    Calls Tryz.prog 150 #[.string s] w fun e w' => ∃ N, e = .returned (.tuple #[.int .i64 (Lib.atoiSat s.data.toList), .iface 245 (.pointer (some ⟨N, 0, none⟩))]) ∧ w.heap.size ≤ N ∧ w'.heap[N]? = some (.cells #[.string ⟨#[65, 116, 111, 105]⟩, .string s, .iface tp p] 269 (0, 0)) ∧ Below w.heap.size w w' := Any.strconv_Atoi_range_var Tryz.laysC172 s hlim h tp p w hvar
def Tryz.laysPu14_ren : Go.Shelf.Ren := ⟨fun | 14 => 151 | 16 => 204 | 17 => 203 | 19 => 232 | 20 => 233 | 21 => 228 | 22 => 229 | 23 => 230 | 24 => 231 | 25 => 250 | 27 => 116 | 26 => 251 | 28 => 158 | 29 => 208 | 30 => 235 | 31 => 236 | 32 => 237 | 33 => 238 | 35 => 168 | 34 => 252 | 36 => 253 | 37 => 254 | 38 => 255 | 39 => 259 | 40 => 260 | n => n, fun | 9 => 9 | 3 => 3 | 22 => 178 | 24 => 175 | 25 => 179 | 4 => 4 | 34 => 242 | 5 => 5 | 36 => 156 | 37 => 183 | 0 => 0 | 39 => 245 | 21 => 21 | 44 => 269 | 47 => 226 | 50 => 279 | 48 => 277 | 2 => 2 | 52 => 252 | 55 => 254 | 59 => 272 | 60 => 200 | 20 => 20 | 61 => 273 | 65 => 281 | 66 => 282 | 67 => 191 | n => n, fun | 0 => 1 | 1 => 2 | 2 => 3 | 3 => 4 | 4 => 5 | n => n⟩
theorem Tryz.laysPu14 : Go.Proofs.LaysPu.n14 Tryz.prog Tryz.laysPu14_ren := {
  mixed := by kernel_rfl
  f14 := Tryz.func151.trans (congrArg some (by kernel_rfl))
  f16 := Tryz.func204.trans (congrArg some (by kernel_rfl))
  f17 := Tryz.func203.trans (congrArg some (by kernel_rfl))
  f19 := Tryz.func232.trans (congrArg some (by kernel_rfl))
  f20 := Tryz.func233.trans (congrArg some (by kernel_rfl))
  f21 := Tryz.func228.trans (congrArg some (by kernel_rfl))
  f22 := Tryz.func229.trans (congrArg some (by kernel_rfl))
  f23 := Tryz.func230.trans (congrArg some (by kernel_rfl))
  f24 := Tryz.func231.trans (congrArg some (by kernel_rfl))
  f25 := Tryz.func250.trans (congrArg some (by kernel_rfl))
  f26 := Tryz.func251.trans (congrArg some (by kernel_rfl))
  f27 := Tryz.func116.trans (congrArg some (by kernel_rfl))
  f28 := Tryz.func158.trans (congrArg some (by kernel_rfl))
  f29 := Tryz.func208.trans (congrArg some (by kernel_rfl))
  f30 := Tryz.func235.trans (congrArg some (by kernel_rfl))
  f31 := Tryz.func236.trans (congrArg some (by kernel_rfl))
  f32 := Tryz.func237.trans (congrArg some (by kernel_rfl))
  f33 := Tryz.func238.trans (congrArg some (by kernel_rfl))
  f34 := Tryz.func252.trans (congrArg some (by kernel_rfl))
  f35 := Tryz.func168.trans (congrArg some (by kernel_rfl))
  f36 := Tryz.func253.trans (congrArg some (by kernel_rfl))
  f37 := Tryz.func254.trans (congrArg some (by kernel_rfl))
  f38 := Tryz.func255.trans (congrArg some (by kernel_rfl))
  f39 := Tryz.func259.trans (congrArg some (by kernel_rfl))
  f40 := Tryz.func260.trans (congrArg some (by kernel_rfl))
  t0 := Tryz.underlying0
  a0 := Tryz.isAgg0
  z0 := Tryz.sizeOf0
  v0 := Tryz.zeroValue0
  i0 := by kernel_rfl
  t2 := Tryz.underlying2
  a2 := Tryz.isAgg2
  z2 := Tryz.sizeOf2
  v2 := Tryz.zeroValue2
  i2 := by kernel_rfl
  t3 := Tryz.underlying3
  a3 := Tryz.isAgg3
  z3 := Tryz.sizeOf3
  v3 := Tryz.zeroValue3
  i3 := by kernel_rfl
  t4 := Tryz.underlying4
  a4 := Tryz.isAgg4
  z4 := Tryz.sizeOf4
  v4 := Tryz.zeroValue4
  i4 := by kernel_rfl
  t5 := Tryz.underlying5
  a5 := Tryz.isAgg5
  z5 := Tryz.sizeOf5
  v5 := Tryz.zeroValue5
  i5 := by kernel_rfl
  t9 := Tryz.underlying9
  a9 := Tryz.isAgg9
  z9 := Tryz.sizeOf9
  v9 := Tryz.zeroValue9
  i9 := by kernel_rfl
  t20 := Tryz.underlying20
  a20 := Tryz.isAgg20
  z20 := Tryz.sizeOf20
  v20 := Tryz.zeroValue20
  i20 := by kernel_rfl
  t21 := Tryz.underlying21
  a21 := Tryz.isAgg21
  z21 := Tryz.sizeOf21
  v21 := Tryz.zeroValue21
  i21 := by kernel_rfl
  t22 := Tryz.underlying178
  a22 := Tryz.isAgg178
  z22 := Tryz.sizeOf178
  v22 := Tryz.zeroValue178
  i22 := by kernel_rfl
  t24 := Tryz.underlying175
  a24 := Tryz.isAgg175
  z24 := Tryz.sizeOf175
  v24 := Tryz.zeroValue175
  i24 := by kernel_rfl
  t25 := Tryz.underlying179
  a25 := Tryz.isAgg179
  z25 := Tryz.sizeOf179
  v25 := Tryz.zeroValue179
  i25 := by kernel_rfl
  t34 := Tryz.underlying242
  a34 := Tryz.isAgg242
  z34 := Tryz.sizeOf242
  v34 := Tryz.zeroValue242
  i34 := by kernel_rfl
  c34 := by kernel_rfl
  t36 := Tryz.underlying156
  a36 := Tryz.isAgg156
  z36 := Tryz.sizeOf156
  v36 := Tryz.zeroValue156
  i36 := by kernel_rfl
  t37 := Tryz.underlying183
  a37 := Tryz.isAgg183
  z37 := Tryz.sizeOf183
  v37 := Tryz.zeroValue183
  i37 := by kernel_rfl
  t39 := Tryz.underlying245
  a39 := Tryz.isAgg245
  z39 := Tryz.sizeOf245
  v39 := Tryz.zeroValue245
  i39 := by kernel_rfl
  t44 := Tryz.underlying269
  a44 := Tryz.isAgg269
  z44 := Tryz.sizeOf269
  v44 := Tryz.zeroValue269
  i44 := by kernel_rfl
  t47 := Tryz.underlying226
  a47 := Tryz.isAgg226
  z47 := Tryz.sizeOf226
  v47 := Tryz.zeroValue226
  i47 := by kernel_rfl
  t48 := Tryz.underlying277
  a48 := Tryz.isAgg277
  z48 := Tryz.sizeOf277
  v48 := Tryz.zeroValue277
  i48 := by kernel_rfl
  t50 := Tryz.underlying279
  a50 := Tryz.isAgg279
  z50 := Tryz.sizeOf279
  v50 := Tryz.zeroValue279
  i50 := by kernel_rfl
  t52 := Tryz.underlying252
  a52 := Tryz.isAgg252
  z52 := Tryz.sizeOf252
  v52 := Tryz.zeroValue252
  i52 := by kernel_rfl
  t55 := Tryz.underlying254
  a55 := Tryz.isAgg254
  z55 := Tryz.sizeOf254
  v55 := Tryz.zeroValue254
  i55 := by kernel_rfl
  t59 := Tryz.underlying272
  a59 := Tryz.isAgg272
  z59 := Tryz.sizeOf272
  v59 := Tryz.zeroValue272
  i59 := by kernel_rfl
  t60 := Tryz.underlying200
  a60 := Tryz.isAgg200
  z60 := Tryz.sizeOf200
  v60 := Tryz.zeroValue200
  i60 := by kernel_rfl
  t61 := Tryz.underlying273
  a61 := Tryz.isAgg273
  z61 := Tryz.sizeOf273
  t65 := Tryz.underlying281
  a65 := Tryz.isAgg281
  z65 := Tryz.sizeOf281
  v65 := Tryz.zeroValue281
  i65 := by kernel_rfl
  t66 := Tryz.underlying282
  a66 := Tryz.isAgg282
  z66 := Tryz.sizeOf282
  v66 := Tryz.zeroValue282
  i66 := by kernel_rfl
  t67 := Tryz.underlying191
  a67 := Tryz.isAgg191
  z67 := Tryz.sizeOf191
  v67 := Tryz.zeroValue191
  i67 := by kernel_rfl
  g0 := by kernel_rfl
  m0 := by kernel_rfl
  g1 := by kernel_rfl
  m1 := by kernel_rfl
  g2 := by kernel_rfl
  m2 := by kernel_rfl
  g3 := by kernel_rfl
  m3 := by kernel_rfl
  g4 := by kernel_rfl
  m4 := by kernel_rfl }
open Go.RowKit in
theorem Tryz.strconv_ParseUint_10_at64_ok (s : ByteArray) (hmax : s.size ≤ 9223372036854775806) (u : Nat) (h : Lib.parseUintB 64 s.data.toList = .ok u) (w : World) :
    Calls Tryz.prog 151 #[.string s, .int .i64 10, .int .i64 64] w fun e w' => e = .returned (.tuple #[.int .u64 u, .nilIface]) ∧ (w' = w ∨ w' = Lib.bytesWorld w 5 s) := Any.strconv_ParseUint_10_at64_ok Tryz.laysPu14 s hmax u h w
open Go.RowKit in
theorem Tryz.strconv_ParseUint_10_at64_syntax_var (s : ByteArray) (hlim : s.size ≤ 281474976710656) (h : Lib.parseUintB 64 s.data.toList = Lib.NumEnd.syntax) (tp : TypeId) (p : Value) (w : World) (hvar : w.var? Tryz.prog "strconv.ErrSyntax" = some #[.iface tp p]) :
    Calls Tryz.prog 151 #[.string s, .int .i64 10, .int .i64 64] w fun e w' => ∃ N, e = .returned (.tuple #[.int .u64 0, .iface 245 (.pointer (some ⟨N, 0, none⟩))]) ∧ w.heap.size ≤ N ∧ w'.heap[N]? = some (.cells #[.string ⟨#[80, 97, 114, 115, 101, 85, 105, 110, 116]⟩, .string s, .iface tp p] 269 (0, 0)) ∧ Below w.heap.size w w' := Any.strconv_ParseUint_10_at64_syntax_var Tryz.laysPu14 s hlim h tp p w hvar
open Go.RowKit in
theorem Tryz.strconv_ParseUint_10_at64_range_var (s : ByteArray) (hlim : s.size ≤ 281474976710656) (h : Lib.parseUintB 64 s.data.toList = .range) (tp : TypeId) (p : Value) (w : World) (hvar : w.var? Tryz.prog "strconv.ErrRange" = some #[.iface tp p]) :
    Calls Tryz.prog 151 #[.string s, .int .i64 10, .int .i64 64] w fun e w' => ∃ N, e = .returned (.tuple #[.int .u64 18446744073709551615, .iface 245 (.pointer (some ⟨N, 0, none⟩))]) ∧ w.heap.size ≤ N ∧ w'.heap[N]? = some (.cells #[.string ⟨#[80, 97, 114, 115, 101, 85, 105, 110, 116]⟩, .string s, .iface tp p] 269 (0, 0)) ∧ Below w.heap.size w w' := Any.strconv_ParseUint_10_at64_range_var Tryz.laysPu14 s hlim h tp p w hvar
def Tryz.lays219_ren : Go.Shelf.Ren := ⟨fun | 219 => 188 | 217 => 142 | 225 => 219 | 224 => 220 | 267 => 221 | 266 => 191 | 314 => 249 | n => n, fun | 9 => 9 | 3 => 3 | 4 => 4 | 5 => 5 | 46 => 156 | 146 => 265 | 51 => 200 | n => n, fun | 1 => 0 | n => n⟩
theorem Tryz.lays219 : Go.Proofs.Lays.n219 Tryz.prog Tryz.lays219_ren := {
  mixed := by kernel_rfl
  f217 := Tryz.func142.trans (congrArg some (by kernel_rfl))
  f219 := Tryz.func188.trans (congrArg some (by kernel_rfl))
  f224 := Tryz.func220.trans (congrArg some (by kernel_rfl))
  f225 := Tryz.func219.trans (congrArg some (by kernel_rfl))
  f266 := Tryz.func191.trans (congrArg some (by kernel_rfl))
  f267 := Tryz.func221.trans (congrArg some (by kernel_rfl))
  f314 := Tryz.func249.trans (congrArg some (by kernel_rfl))
  t3 := Tryz.underlying3
  a3 := Tryz.isAgg3
  z3 := Tryz.sizeOf3
  v3 := Tryz.zeroValue3
  t4 := Tryz.underlying4
  a4 := Tryz.isAgg4
  z4 := Tryz.sizeOf4
  v4 := Tryz.zeroValue4
  t5 := Tryz.underlying5
  a5 := Tryz.isAgg5
  z5 := Tryz.sizeOf5
  v5 := Tryz.zeroValue5
  t9 := Tryz.underlying9
  a9 := Tryz.isAgg9
  z9 := Tryz.sizeOf9
  v9 := Tryz.zeroValue9
  t46 := Tryz.underlying156
  a46 := Tryz.isAgg156
  z46 := Tryz.sizeOf156
  v46 := Tryz.zeroValue156
  t51 := Tryz.underlying200
  a51 := Tryz.isAgg200
  z51 := Tryz.sizeOf200
  v51 := Tryz.zeroValue200
  t146 := Tryz.underlying265
  a146 := Tryz.isAgg265
  z146 := Tryz.sizeOf265
  v146 := Tryz.zeroValue265
  g1 := by kernel_rfl }
open Go.RowKit Go.Lib in
theorem Tryz.stringslite_Index_one (s : ByteArray) (c : UInt8) (w : World) :
    Calls Tryz.prog 188 #[.string s, .string ⟨#[c]⟩] w fun e w' => e = .returned (.int .i64 (Lib.indexByte s.data.toList c)) ∧ w' = w := Any.stringslite_Index_one Tryz.lays219 s c w

end Go.Proofs
