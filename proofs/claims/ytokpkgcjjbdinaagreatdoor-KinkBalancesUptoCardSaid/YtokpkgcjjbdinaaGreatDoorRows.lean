/-
  NARROWER THAN 'FOR EVERY INPUT', by the rows' own cells (each row's printed sentence says how): KinkDirections: laid · KinkAxes: laid · KinkPlaces: laid · KinkAreas: laid · KinkFolds: laid · KinkReturns: laid · KinkHeights: laid · KinkChecks: laid · KinkBeds: laid · KinkBalances: laid.
  DERIVED. THE GIVEN ROWS OF THIS SEAT. 10 by the template 'for every input the law returns true; each argument reads behind the call as it read before'; 0 by the template 'total and deterministic' (their statements: YtokpkgcjjbdinaaGreatDoorTotals.lean).
  GIVEN WITH THE SEED: the statements are not yours to turn. If you find one false, say at which input.
  Laid BY PROGRAM, IN A SANDBOX (cutbox-rows.mjs): the forced cells as the released guide's own fill.sh prints them over the translation c0be1ccf0cab1b51… (all of the seat's roots in one cut). By AI agents, Wed Nov 11 2026. No macro, syntax, notation, axiom, sorry.
-/
import Derived.Test.YtokpkgcjjbdinaaGreatDoorChecked
import GoSem.Claim
import GoSem.ClaimJoined
import GoSem.ClaimMapViews
import Derived.JoinedTies
import Derived.KernelRfl
namespace Go.Proofs.YtokpkgcjjbdinaaGreatDoor
/- THE CELL 'sum', in the pinned program and in every row, IS THE sha256 OF THE DUMP (.gsa) THAT YtokpkgcjjbdinaaGreatDoorProg.lean LOADS. Nothing in Lean hashes anything: it is a label: what it is worth is what the hold of that sum in a sandbox is worth. -/
noncomputable def Tryz.pinned : Pinned := { name := "ytokpkgcjjbdinaagreatdoor", sum := "c0be1ccf0cab1b5141aa3b28f4361bf153e35d67b0d4a19b74c911a41ecb7404", checked := Tryz.checked }
namespace Rows
def none {H : Type} : Left H := { results := [], args := [] }

/- WHAT THE LISTED PACKAGE-LEVEL VARIABLES READ AS WHEN THE CALL BEGINS. Each datum BY PROGRAM (the guide's laid-datum.mjs) off the statement by which the dump's own 'gosem.cut.vars' lays the variable. In a bare row this is a premise. The card (YtokpkgcjjbdinaaGreatDoorCards.lean) ties it to the program's text. -/
def laid_math_bits_deBruijn32tab {H : Type} : DataW H := .agg [.lit (.int .u8 0), .lit (.int .u8 1), .lit (.int .u8 28), .lit (.int .u8 2), .lit (.int .u8 29), .lit (.int .u8 14), .lit (.int .u8 24), .lit (.int .u8 3), .lit (.int .u8 30), .lit (.int .u8 22), .lit (.int .u8 20), .lit (.int .u8 15), .lit (.int .u8 25), .lit (.int .u8 17), .lit (.int .u8 4), .lit (.int .u8 8), .lit (.int .u8 31), .lit (.int .u8 27), .lit (.int .u8 13), .lit (.int .u8 23), .lit (.int .u8 21), .lit (.int .u8 19), .lit (.int .u8 16), .lit (.int .u8 7), .lit (.int .u8 26), .lit (.int .u8 12), .lit (.int .u8 18), .lit (.int .u8 6), .lit (.int .u8 11), .lit (.int .u8 5), .lit (.int .u8 10), .lit (.int .u8 9)]
def laid_math_bits_deBruijn64tab {H : Type} : DataW H := .agg [.lit (.int .u8 0), .lit (.int .u8 1), .lit (.int .u8 56), .lit (.int .u8 2), .lit (.int .u8 57), .lit (.int .u8 49), .lit (.int .u8 28), .lit (.int .u8 3), .lit (.int .u8 61), .lit (.int .u8 58), .lit (.int .u8 42), .lit (.int .u8 50), .lit (.int .u8 38), .lit (.int .u8 29), .lit (.int .u8 17), .lit (.int .u8 4), .lit (.int .u8 62), .lit (.int .u8 47), .lit (.int .u8 59), .lit (.int .u8 36), .lit (.int .u8 45), .lit (.int .u8 43), .lit (.int .u8 51), .lit (.int .u8 22), .lit (.int .u8 53), .lit (.int .u8 39), .lit (.int .u8 33), .lit (.int .u8 30), .lit (.int .u8 24), .lit (.int .u8 18), .lit (.int .u8 12), .lit (.int .u8 5), .lit (.int .u8 63), .lit (.int .u8 55), .lit (.int .u8 48), .lit (.int .u8 27), .lit (.int .u8 60), .lit (.int .u8 41), .lit (.int .u8 37), .lit (.int .u8 16), .lit (.int .u8 46), .lit (.int .u8 35), .lit (.int .u8 44), .lit (.int .u8 21), .lit (.int .u8 52), .lit (.int .u8 32), .lit (.int .u8 23), .lit (.int .u8 11), .lit (.int .u8 54), .lit (.int .u8 26), .lit (.int .u8 40), .lit (.int .u8 15), .lit (.int .u8 34), .lit (.int .u8 20), .lit (.int .u8 31), .lit (.int .u8 10), .lit (.int .u8 25), .lit (.int .u8 14), .lit (.int .u8 19), .lit (.int .u8 9), .lit (.int .u8 13), .lit (.int .u8 8), .lit (.int .u8 7), .lit (.int .u8 6)]
def laid_internal_strconv_uint64pow10 {H : Type} : DataW H := .agg [.lit (.int .u64 1), .lit (.int .u64 10), .lit (.int .u64 100), .lit (.int .u64 1000), .lit (.int .u64 10000), .lit (.int .u64 100000), .lit (.int .u64 1000000), .lit (.int .u64 10000000), .lit (.int .u64 100000000), .lit (.int .u64 1000000000), .lit (.int .u64 10000000000), .lit (.int .u64 100000000000), .lit (.int .u64 1000000000000), .lit (.int .u64 10000000000000), .lit (.int .u64 100000000000000), .lit (.int .u64 1000000000000000), .lit (.int .u64 10000000000000000), .lit (.int .u64 100000000000000000), .lit (.int .u64 1000000000000000000), .lit (.int .u64 10000000000000000000)]
def laid_strconv_ErrRange {H : Type} : DataW H := .iface "*errors.errorString" (.ptr (.agg [.lit (.string [118, 97, 108, 117, 101, 32, 111, 117, 116, 32, 111, 102, 32, 114, 97, 110, 103, 101])]))
def laid_strconv_ErrSyntax {H : Type} : DataW H := .iface "*errors.errorString" (.ptr (.agg [.lit (.string [105, 110, 118, 97, 108, 105, 100, 32, 115, 121, 110, 116, 97, 120])]))

/-- 'klippelaw40.KinkDirections': WHATEVER THE INPUT: true; the input reads as it did. -/
def kinkDirectionsSpec : ChangeSpec := { name := "kinkDirections", fn := fun _ => fun
  | [d] => { results := [.lit (.bool true)], args := [d] }
  | _ => none }
def kinkDirectionsRow : OpenClaim := { program := "ytokpkgcjjbdinaagreatdoor", sum := "c0be1ccf0cab1b5141aa3b28f4361bf153e35d67b0d4a19b74c911a41ecb7404", func := "klippe/klippelaw40.KinkDirections", spec := "kinkDirections", inPlace := ["internal/bytealg.IndexByteString", "internal/bytealg.IndexString", "internal/bytealg.abigen_runtime_cmpstring", "internal/abi.NoEscape"], unfollowed := true, recurses := true, named := ["internal/strconv.uint64pow10", "math/bits.deBruijn32tab", "math/bits.deBruijn64tab", "internal/bytealg.MaxLen", "strconv.ErrSyntax", "strconv.ErrRange"], apart := false, laid := [("math/bits.deBruijn32tab", laid_math_bits_deBruijn32tab), ("math/bits.deBruijn64tab", laid_math_bits_deBruijn64tab), ("internal/strconv.uint64pow10", laid_internal_strconv_uint64pow10), ("strconv.ErrRange", laid_strconv_ErrRange), ("strconv.ErrSyntax", laid_strconv_ErrSyntax)] }
def KinkDirectionsSaid : Prop := kinkDirectionsRow.holds Tryz.pinned (OpenSpec.ofChange kinkDirectionsSpec)

/-- ITS FALSE NEIGHBOUR: 'it returns false'. Refute it at one input. -/
def kinkDirectionsWrong : ChangeSpec := { name := "kinkDirections", fn := fun _ => fun
  | [d] => { results := [.lit (.bool false)], args := [d] }
  | _ => none }
def KinkDirectionsWrongFalsely : Prop := kinkDirectionsRow.holds Tryz.pinned (OpenSpec.ofChange kinkDirectionsWrong)

/-- 'klippelaw40.KinkAxes': WHATEVER THE INPUT: true; the input reads as it did. -/
def kinkAxesSpec : ChangeSpec := { name := "kinkAxes", fn := fun _ => fun
  | [d] => { results := [.lit (.bool true)], args := [d] }
  | _ => none }
def kinkAxesRow : OpenClaim := { program := "ytokpkgcjjbdinaagreatdoor", sum := "c0be1ccf0cab1b5141aa3b28f4361bf153e35d67b0d4a19b74c911a41ecb7404", func := "klippe/klippelaw40.KinkAxes", spec := "kinkAxes", inPlace := ["internal/bytealg.IndexByteString", "internal/bytealg.IndexString", "internal/bytealg.abigen_runtime_cmpstring", "internal/abi.NoEscape"], unfollowed := true, recurses := true, named := ["internal/strconv.uint64pow10", "math/bits.deBruijn32tab", "math/bits.deBruijn64tab", "internal/bytealg.MaxLen", "strconv.ErrSyntax", "strconv.ErrRange"], apart := false, laid := [("math/bits.deBruijn32tab", laid_math_bits_deBruijn32tab), ("math/bits.deBruijn64tab", laid_math_bits_deBruijn64tab), ("internal/strconv.uint64pow10", laid_internal_strconv_uint64pow10), ("strconv.ErrRange", laid_strconv_ErrRange), ("strconv.ErrSyntax", laid_strconv_ErrSyntax)] }
def KinkAxesSaid : Prop := kinkAxesRow.holds Tryz.pinned (OpenSpec.ofChange kinkAxesSpec)

/-- ITS FALSE NEIGHBOUR: 'it returns false'. Refute it at one input. -/
def kinkAxesWrong : ChangeSpec := { name := "kinkAxes", fn := fun _ => fun
  | [d] => { results := [.lit (.bool false)], args := [d] }
  | _ => none }
def KinkAxesWrongFalsely : Prop := kinkAxesRow.holds Tryz.pinned (OpenSpec.ofChange kinkAxesWrong)

/-- 'klippelaw40.KinkPlaces': WHATEVER THE INPUT: true; the input reads as it did. -/
def kinkPlacesSpec : ChangeSpec := { name := "kinkPlaces", fn := fun _ => fun
  | [d1, d2] => { results := [.lit (.bool true)], args := [d1, d2] }
  | _ => none }
def kinkPlacesRow : OpenClaim := { program := "ytokpkgcjjbdinaagreatdoor", sum := "c0be1ccf0cab1b5141aa3b28f4361bf153e35d67b0d4a19b74c911a41ecb7404", func := "klippe/klippelaw40.KinkPlaces", spec := "kinkPlaces", inPlace := ["internal/bytealg.IndexByteString", "internal/bytealg.IndexString", "internal/bytealg.abigen_runtime_cmpstring", "internal/abi.NoEscape"], unfollowed := true, recurses := true, named := ["internal/strconv.uint64pow10", "math/bits.deBruijn32tab", "math/bits.deBruijn64tab", "internal/bytealg.MaxLen", "strconv.ErrSyntax", "strconv.ErrRange"], apart := false, laid := [("math/bits.deBruijn32tab", laid_math_bits_deBruijn32tab), ("math/bits.deBruijn64tab", laid_math_bits_deBruijn64tab), ("internal/strconv.uint64pow10", laid_internal_strconv_uint64pow10), ("strconv.ErrRange", laid_strconv_ErrRange), ("strconv.ErrSyntax", laid_strconv_ErrSyntax)] }
def KinkPlacesSaid : Prop := kinkPlacesRow.holds Tryz.pinned (OpenSpec.ofChange kinkPlacesSpec)

/-- ITS FALSE NEIGHBOUR: 'it returns false'. Refute it at one input. -/
def kinkPlacesWrong : ChangeSpec := { name := "kinkPlaces", fn := fun _ => fun
  | [d1, d2] => { results := [.lit (.bool false)], args := [d1, d2] }
  | _ => none }
def KinkPlacesWrongFalsely : Prop := kinkPlacesRow.holds Tryz.pinned (OpenSpec.ofChange kinkPlacesWrong)

/-- 'klippelaw40.KinkAreas': WHATEVER THE INPUT: true; the input reads as it did. -/
def kinkAreasSpec : ChangeSpec := { name := "kinkAreas", fn := fun _ => fun
  | [d1, d2, d3] => { results := [.lit (.bool true)], args := [d1, d2, d3] }
  | _ => none }
def kinkAreasRow : OpenClaim := { program := "ytokpkgcjjbdinaagreatdoor", sum := "c0be1ccf0cab1b5141aa3b28f4361bf153e35d67b0d4a19b74c911a41ecb7404", func := "klippe/klippelaw40.KinkAreas", spec := "kinkAreas", inPlace := ["internal/bytealg.IndexByteString", "internal/bytealg.IndexString", "internal/bytealg.abigen_runtime_cmpstring", "internal/abi.NoEscape"], unfollowed := true, recurses := true, named := ["internal/strconv.uint64pow10", "math/bits.deBruijn32tab", "math/bits.deBruijn64tab", "internal/bytealg.MaxLen", "strconv.ErrSyntax", "strconv.ErrRange"], apart := false, laid := [("math/bits.deBruijn32tab", laid_math_bits_deBruijn32tab), ("math/bits.deBruijn64tab", laid_math_bits_deBruijn64tab), ("internal/strconv.uint64pow10", laid_internal_strconv_uint64pow10), ("strconv.ErrRange", laid_strconv_ErrRange), ("strconv.ErrSyntax", laid_strconv_ErrSyntax)] }
def KinkAreasSaid : Prop := kinkAreasRow.holds Tryz.pinned (OpenSpec.ofChange kinkAreasSpec)

/-- ITS FALSE NEIGHBOUR: 'it returns false'. Refute it at one input. -/
def kinkAreasWrong : ChangeSpec := { name := "kinkAreas", fn := fun _ => fun
  | [d1, d2, d3] => { results := [.lit (.bool false)], args := [d1, d2, d3] }
  | _ => none }
def KinkAreasWrongFalsely : Prop := kinkAreasRow.holds Tryz.pinned (OpenSpec.ofChange kinkAreasWrong)

/-- 'klippelaw40.KinkFolds': WHATEVER THE INPUT: true; the input reads as it did. -/
def kinkFoldsSpec : ChangeSpec := { name := "kinkFolds", fn := fun _ => fun
  | [d1, d2] => { results := [.lit (.bool true)], args := [d1, d2] }
  | _ => none }
def kinkFoldsRow : OpenClaim := { program := "ytokpkgcjjbdinaagreatdoor", sum := "c0be1ccf0cab1b5141aa3b28f4361bf153e35d67b0d4a19b74c911a41ecb7404", func := "klippe/klippelaw40.KinkFolds", spec := "kinkFolds", inPlace := ["internal/bytealg.IndexByteString", "internal/bytealg.IndexString", "internal/bytealg.abigen_runtime_cmpstring", "internal/abi.NoEscape"], unfollowed := true, recurses := true, named := ["internal/strconv.uint64pow10", "math/bits.deBruijn32tab", "math/bits.deBruijn64tab", "internal/bytealg.MaxLen", "strconv.ErrSyntax", "strconv.ErrRange"], apart := false, laid := [("math/bits.deBruijn32tab", laid_math_bits_deBruijn32tab), ("math/bits.deBruijn64tab", laid_math_bits_deBruijn64tab), ("internal/strconv.uint64pow10", laid_internal_strconv_uint64pow10), ("strconv.ErrRange", laid_strconv_ErrRange), ("strconv.ErrSyntax", laid_strconv_ErrSyntax)] }
def KinkFoldsSaid : Prop := kinkFoldsRow.holds Tryz.pinned (OpenSpec.ofChange kinkFoldsSpec)

/-- ITS FALSE NEIGHBOUR: 'it returns false'. Refute it at one input. -/
def kinkFoldsWrong : ChangeSpec := { name := "kinkFolds", fn := fun _ => fun
  | [d1, d2] => { results := [.lit (.bool false)], args := [d1, d2] }
  | _ => none }
def KinkFoldsWrongFalsely : Prop := kinkFoldsRow.holds Tryz.pinned (OpenSpec.ofChange kinkFoldsWrong)

/-- 'klippelaw40.KinkReturns': WHATEVER THE INPUT: true; the input reads as it did. -/
def kinkReturnsSpec : ChangeSpec := { name := "kinkReturns", fn := fun _ => fun
  | [d1, d2] => { results := [.lit (.bool true)], args := [d1, d2] }
  | _ => none }
def kinkReturnsRow : OpenClaim := { program := "ytokpkgcjjbdinaagreatdoor", sum := "c0be1ccf0cab1b5141aa3b28f4361bf153e35d67b0d4a19b74c911a41ecb7404", func := "klippe/klippelaw40.KinkReturns", spec := "kinkReturns", inPlace := ["internal/bytealg.IndexByteString", "internal/bytealg.IndexString", "internal/bytealg.abigen_runtime_cmpstring", "internal/abi.NoEscape"], unfollowed := true, recurses := true, named := ["internal/strconv.uint64pow10", "math/bits.deBruijn32tab", "math/bits.deBruijn64tab", "internal/bytealg.MaxLen", "strconv.ErrSyntax", "strconv.ErrRange"], apart := false, laid := [("math/bits.deBruijn32tab", laid_math_bits_deBruijn32tab), ("math/bits.deBruijn64tab", laid_math_bits_deBruijn64tab), ("internal/strconv.uint64pow10", laid_internal_strconv_uint64pow10), ("strconv.ErrRange", laid_strconv_ErrRange), ("strconv.ErrSyntax", laid_strconv_ErrSyntax)] }
def KinkReturnsSaid : Prop := kinkReturnsRow.holds Tryz.pinned (OpenSpec.ofChange kinkReturnsSpec)

/-- ITS FALSE NEIGHBOUR: 'it returns false'. Refute it at one input. -/
def kinkReturnsWrong : ChangeSpec := { name := "kinkReturns", fn := fun _ => fun
  | [d1, d2] => { results := [.lit (.bool false)], args := [d1, d2] }
  | _ => none }
def KinkReturnsWrongFalsely : Prop := kinkReturnsRow.holds Tryz.pinned (OpenSpec.ofChange kinkReturnsWrong)

/-- 'klippelaw40.KinkHeights': WHATEVER THE INPUT: true; the input reads as it did. -/
def kinkHeightsSpec : ChangeSpec := { name := "kinkHeights", fn := fun _ => fun
  | [d1, d2] => { results := [.lit (.bool true)], args := [d1, d2] }
  | _ => none }
def kinkHeightsRow : OpenClaim := { program := "ytokpkgcjjbdinaagreatdoor", sum := "c0be1ccf0cab1b5141aa3b28f4361bf153e35d67b0d4a19b74c911a41ecb7404", func := "klippe/klippelaw40.KinkHeights", spec := "kinkHeights", inPlace := ["internal/bytealg.IndexByteString", "internal/bytealg.IndexString", "internal/bytealg.abigen_runtime_cmpstring", "internal/abi.NoEscape"], unfollowed := true, recurses := true, named := ["internal/strconv.uint64pow10", "math/bits.deBruijn32tab", "math/bits.deBruijn64tab", "internal/bytealg.MaxLen", "strconv.ErrSyntax", "strconv.ErrRange"], apart := false, laid := [("math/bits.deBruijn32tab", laid_math_bits_deBruijn32tab), ("math/bits.deBruijn64tab", laid_math_bits_deBruijn64tab), ("internal/strconv.uint64pow10", laid_internal_strconv_uint64pow10), ("strconv.ErrRange", laid_strconv_ErrRange), ("strconv.ErrSyntax", laid_strconv_ErrSyntax)] }
def KinkHeightsSaid : Prop := kinkHeightsRow.holds Tryz.pinned (OpenSpec.ofChange kinkHeightsSpec)

/-- ITS FALSE NEIGHBOUR: 'it returns false'. Refute it at one input. -/
def kinkHeightsWrong : ChangeSpec := { name := "kinkHeights", fn := fun _ => fun
  | [d1, d2] => { results := [.lit (.bool false)], args := [d1, d2] }
  | _ => none }
def KinkHeightsWrongFalsely : Prop := kinkHeightsRow.holds Tryz.pinned (OpenSpec.ofChange kinkHeightsWrong)

/-- 'klippelaw40.KinkChecks': WHATEVER THE INPUT: true; the input reads as it did. -/
def kinkChecksSpec : ChangeSpec := { name := "kinkChecks", fn := fun _ => fun
  | [d] => { results := [.lit (.bool true)], args := [d] }
  | _ => none }
def kinkChecksRow : OpenClaim := { program := "ytokpkgcjjbdinaagreatdoor", sum := "c0be1ccf0cab1b5141aa3b28f4361bf153e35d67b0d4a19b74c911a41ecb7404", func := "klippe/klippelaw40.KinkChecks", spec := "kinkChecks", inPlace := ["internal/bytealg.IndexByteString", "internal/bytealg.IndexString", "internal/bytealg.abigen_runtime_cmpstring", "internal/abi.NoEscape"], unfollowed := true, recurses := true, named := ["internal/strconv.uint64pow10", "math/bits.deBruijn32tab", "math/bits.deBruijn64tab", "internal/bytealg.MaxLen", "strconv.ErrSyntax", "strconv.ErrRange"], apart := false, laid := [("math/bits.deBruijn32tab", laid_math_bits_deBruijn32tab), ("math/bits.deBruijn64tab", laid_math_bits_deBruijn64tab), ("internal/strconv.uint64pow10", laid_internal_strconv_uint64pow10), ("strconv.ErrRange", laid_strconv_ErrRange), ("strconv.ErrSyntax", laid_strconv_ErrSyntax)] }
def KinkChecksSaid : Prop := kinkChecksRow.holds Tryz.pinned (OpenSpec.ofChange kinkChecksSpec)

/-- ITS FALSE NEIGHBOUR: 'it returns false'. Refute it at one input. -/
def kinkChecksWrong : ChangeSpec := { name := "kinkChecks", fn := fun _ => fun
  | [d] => { results := [.lit (.bool false)], args := [d] }
  | _ => none }
def KinkChecksWrongFalsely : Prop := kinkChecksRow.holds Tryz.pinned (OpenSpec.ofChange kinkChecksWrong)

/-- 'klippelaw40.KinkBeds': WHATEVER THE INPUT: true; the input reads as it did. -/
def kinkBedsSpec : ChangeSpec := { name := "kinkBeds", fn := fun _ => fun
  | [d1, d2] => { results := [.lit (.bool true)], args := [d1, d2] }
  | _ => none }
def kinkBedsRow : OpenClaim := { program := "ytokpkgcjjbdinaagreatdoor", sum := "c0be1ccf0cab1b5141aa3b28f4361bf153e35d67b0d4a19b74c911a41ecb7404", func := "klippe/klippelaw40.KinkBeds", spec := "kinkBeds", inPlace := ["internal/bytealg.IndexByteString", "internal/bytealg.IndexString", "internal/bytealg.abigen_runtime_cmpstring", "internal/abi.NoEscape"], unfollowed := true, recurses := true, named := ["internal/strconv.uint64pow10", "math/bits.deBruijn32tab", "math/bits.deBruijn64tab", "internal/bytealg.MaxLen", "strconv.ErrSyntax", "strconv.ErrRange"], apart := false, laid := [("math/bits.deBruijn32tab", laid_math_bits_deBruijn32tab), ("math/bits.deBruijn64tab", laid_math_bits_deBruijn64tab), ("internal/strconv.uint64pow10", laid_internal_strconv_uint64pow10), ("strconv.ErrRange", laid_strconv_ErrRange), ("strconv.ErrSyntax", laid_strconv_ErrSyntax)] }
def KinkBedsSaid : Prop := kinkBedsRow.holds Tryz.pinned (OpenSpec.ofChange kinkBedsSpec)

/-- ITS FALSE NEIGHBOUR: 'it returns false'. Refute it at one input. -/
def kinkBedsWrong : ChangeSpec := { name := "kinkBeds", fn := fun _ => fun
  | [d1, d2] => { results := [.lit (.bool false)], args := [d1, d2] }
  | _ => none }
def KinkBedsWrongFalsely : Prop := kinkBedsRow.holds Tryz.pinned (OpenSpec.ofChange kinkBedsWrong)

/-- 'klippelaw40.KinkBalances': WHATEVER THE INPUT: true; the input reads as it did. -/
def kinkBalancesSpec : ChangeSpec := { name := "kinkBalances", fn := fun _ => fun
  | [d1, d2] => { results := [.lit (.bool true)], args := [d1, d2] }
  | _ => none }
def kinkBalancesRow : OpenClaim := { program := "ytokpkgcjjbdinaagreatdoor", sum := "c0be1ccf0cab1b5141aa3b28f4361bf153e35d67b0d4a19b74c911a41ecb7404", func := "klippe/klippelaw40.KinkBalances", spec := "kinkBalances", inPlace := ["internal/bytealg.IndexByteString", "internal/bytealg.IndexString", "internal/bytealg.abigen_runtime_cmpstring", "internal/abi.NoEscape"], unfollowed := true, recurses := true, named := ["internal/strconv.uint64pow10", "math/bits.deBruijn32tab", "math/bits.deBruijn64tab", "internal/bytealg.MaxLen", "strconv.ErrSyntax", "strconv.ErrRange"], apart := false, laid := [("math/bits.deBruijn32tab", laid_math_bits_deBruijn32tab), ("math/bits.deBruijn64tab", laid_math_bits_deBruijn64tab), ("internal/strconv.uint64pow10", laid_internal_strconv_uint64pow10), ("strconv.ErrRange", laid_strconv_ErrRange), ("strconv.ErrSyntax", laid_strconv_ErrSyntax)] }
def KinkBalancesSaid : Prop := kinkBalancesRow.holds Tryz.pinned (OpenSpec.ofChange kinkBalancesSpec)

/-- ITS FALSE NEIGHBOUR: 'it returns false'. Refute it at one input. -/
def kinkBalancesWrong : ChangeSpec := { name := "kinkBalances", fn := fun _ => fun
  | [d1, d2] => { results := [.lit (.bool false)], args := [d1, d2] }
  | _ => none }
def KinkBalancesWrongFalsely : Prop := kinkBalancesRow.holds Tryz.pinned (OpenSpec.ofChange kinkBalancesWrong)

/- THE SECOND FORM. 'bulk': how many values and letters a reading holds, each counted each time it is reached (what is shared counts as often as it is met; a slice's spare places count too). A statement '..UptoSaid' is the law's where the arguments, and the package variables that the reading takes, are together of bulk at most 1048576: NARROWER than '..Said'. Prove '..Said' where nothing that the law and all that it calls make is longer than what came in: it says more and counts as full. Else prove '..UptoSaid'. A law counts once. -/
mutual
def uptoBulk {H : Type} : DataW H → Nat
  | .lit (.string bytes) => bytes.length + 1
  | .lit _ => 1
  | .nil => 1
  | .ptr d => uptoBulk d + 1
  | .slice elems spare => uptoBulkAll elems + uptoBulkAll spare + 1
  | .agg parts => uptoBulkAll parts + 1
  | .iface _ d => uptoBulk d + 1
  | .map entries => uptoBulkEntries entries + 1
  | .held _ => 1
def uptoBulkAll {H : Type} : List (DataW H) → Nat
  | [] => 0
  | d :: r => uptoBulk d + uptoBulkAll r
def uptoBulkEntries {H : Type} : List (Lit × DataW H) → Nat
  | [] => 0
  | x :: r => uptoBulkEntry x + uptoBulkEntries r
def uptoBulkEntry {H : Type} : Lit × DataW H → Nat
  | (.string bytes, d) => bytes.length + uptoBulk d + 1
  | (_, d) => uptoBulk d + 1
 end
def uptoSmall : (H : Type) → List (DataW H) → Bool := fun _ ds => decide (uptoBulkAll ds ≤ 1048576)
def OpenSpec.upto (s : _root_.Go.ChangeSpec) : _root_.Go.OpenSpec := { _root_.Go.OpenSpec.ofChange s with cond := some uptoSmall }

/-- 'klippelaw40.KinkDirections', WHERE WHAT IT READS IS OF BULK AT MOST 1048576: true; the input reads as it did. -/
def kinkDirectionsUptoRow : OpenClaim := { program := "ytokpkgcjjbdinaagreatdoor", sum := "c0be1ccf0cab1b5141aa3b28f4361bf153e35d67b0d4a19b74c911a41ecb7404", func := "klippe/klippelaw40.KinkDirections", spec := "kinkDirections", inPlace := ["internal/bytealg.IndexByteString", "internal/bytealg.IndexString", "internal/bytealg.abigen_runtime_cmpstring", "internal/abi.NoEscape"], unfollowed := true, recurses := true, named := ["internal/strconv.uint64pow10", "math/bits.deBruijn32tab", "math/bits.deBruijn64tab", "internal/bytealg.MaxLen", "strconv.ErrSyntax", "strconv.ErrRange"], apart := false, laid := [("math/bits.deBruijn32tab", laid_math_bits_deBruijn32tab), ("math/bits.deBruijn64tab", laid_math_bits_deBruijn64tab), ("internal/strconv.uint64pow10", laid_internal_strconv_uint64pow10), ("strconv.ErrRange", laid_strconv_ErrRange), ("strconv.ErrSyntax", laid_strconv_ErrSyntax)], narrowed := true }
def KinkDirectionsUptoSaid : Prop := kinkDirectionsUptoRow.holds Tryz.pinned (OpenSpec.upto kinkDirectionsSpec)

/-- 'klippelaw40.KinkAxes', WHERE WHAT IT READS IS OF BULK AT MOST 1048576: true; the input reads as it did. -/
def kinkAxesUptoRow : OpenClaim := { program := "ytokpkgcjjbdinaagreatdoor", sum := "c0be1ccf0cab1b5141aa3b28f4361bf153e35d67b0d4a19b74c911a41ecb7404", func := "klippe/klippelaw40.KinkAxes", spec := "kinkAxes", inPlace := ["internal/bytealg.IndexByteString", "internal/bytealg.IndexString", "internal/bytealg.abigen_runtime_cmpstring", "internal/abi.NoEscape"], unfollowed := true, recurses := true, named := ["internal/strconv.uint64pow10", "math/bits.deBruijn32tab", "math/bits.deBruijn64tab", "internal/bytealg.MaxLen", "strconv.ErrSyntax", "strconv.ErrRange"], apart := false, laid := [("math/bits.deBruijn32tab", laid_math_bits_deBruijn32tab), ("math/bits.deBruijn64tab", laid_math_bits_deBruijn64tab), ("internal/strconv.uint64pow10", laid_internal_strconv_uint64pow10), ("strconv.ErrRange", laid_strconv_ErrRange), ("strconv.ErrSyntax", laid_strconv_ErrSyntax)], narrowed := true }
def KinkAxesUptoSaid : Prop := kinkAxesUptoRow.holds Tryz.pinned (OpenSpec.upto kinkAxesSpec)

/-- 'klippelaw40.KinkPlaces', WHERE WHAT IT READS IS OF BULK AT MOST 1048576: true; the input reads as it did. -/
def kinkPlacesUptoRow : OpenClaim := { program := "ytokpkgcjjbdinaagreatdoor", sum := "c0be1ccf0cab1b5141aa3b28f4361bf153e35d67b0d4a19b74c911a41ecb7404", func := "klippe/klippelaw40.KinkPlaces", spec := "kinkPlaces", inPlace := ["internal/bytealg.IndexByteString", "internal/bytealg.IndexString", "internal/bytealg.abigen_runtime_cmpstring", "internal/abi.NoEscape"], unfollowed := true, recurses := true, named := ["internal/strconv.uint64pow10", "math/bits.deBruijn32tab", "math/bits.deBruijn64tab", "internal/bytealg.MaxLen", "strconv.ErrSyntax", "strconv.ErrRange"], apart := false, laid := [("math/bits.deBruijn32tab", laid_math_bits_deBruijn32tab), ("math/bits.deBruijn64tab", laid_math_bits_deBruijn64tab), ("internal/strconv.uint64pow10", laid_internal_strconv_uint64pow10), ("strconv.ErrRange", laid_strconv_ErrRange), ("strconv.ErrSyntax", laid_strconv_ErrSyntax)], narrowed := true }
def KinkPlacesUptoSaid : Prop := kinkPlacesUptoRow.holds Tryz.pinned (OpenSpec.upto kinkPlacesSpec)

/-- 'klippelaw40.KinkAreas', WHERE WHAT IT READS IS OF BULK AT MOST 1048576: true; the input reads as it did. -/
def kinkAreasUptoRow : OpenClaim := { program := "ytokpkgcjjbdinaagreatdoor", sum := "c0be1ccf0cab1b5141aa3b28f4361bf153e35d67b0d4a19b74c911a41ecb7404", func := "klippe/klippelaw40.KinkAreas", spec := "kinkAreas", inPlace := ["internal/bytealg.IndexByteString", "internal/bytealg.IndexString", "internal/bytealg.abigen_runtime_cmpstring", "internal/abi.NoEscape"], unfollowed := true, recurses := true, named := ["internal/strconv.uint64pow10", "math/bits.deBruijn32tab", "math/bits.deBruijn64tab", "internal/bytealg.MaxLen", "strconv.ErrSyntax", "strconv.ErrRange"], apart := false, laid := [("math/bits.deBruijn32tab", laid_math_bits_deBruijn32tab), ("math/bits.deBruijn64tab", laid_math_bits_deBruijn64tab), ("internal/strconv.uint64pow10", laid_internal_strconv_uint64pow10), ("strconv.ErrRange", laid_strconv_ErrRange), ("strconv.ErrSyntax", laid_strconv_ErrSyntax)], narrowed := true }
def KinkAreasUptoSaid : Prop := kinkAreasUptoRow.holds Tryz.pinned (OpenSpec.upto kinkAreasSpec)

/-- 'klippelaw40.KinkFolds', WHERE WHAT IT READS IS OF BULK AT MOST 1048576: true; the input reads as it did. -/
def kinkFoldsUptoRow : OpenClaim := { program := "ytokpkgcjjbdinaagreatdoor", sum := "c0be1ccf0cab1b5141aa3b28f4361bf153e35d67b0d4a19b74c911a41ecb7404", func := "klippe/klippelaw40.KinkFolds", spec := "kinkFolds", inPlace := ["internal/bytealg.IndexByteString", "internal/bytealg.IndexString", "internal/bytealg.abigen_runtime_cmpstring", "internal/abi.NoEscape"], unfollowed := true, recurses := true, named := ["internal/strconv.uint64pow10", "math/bits.deBruijn32tab", "math/bits.deBruijn64tab", "internal/bytealg.MaxLen", "strconv.ErrSyntax", "strconv.ErrRange"], apart := false, laid := [("math/bits.deBruijn32tab", laid_math_bits_deBruijn32tab), ("math/bits.deBruijn64tab", laid_math_bits_deBruijn64tab), ("internal/strconv.uint64pow10", laid_internal_strconv_uint64pow10), ("strconv.ErrRange", laid_strconv_ErrRange), ("strconv.ErrSyntax", laid_strconv_ErrSyntax)], narrowed := true }
def KinkFoldsUptoSaid : Prop := kinkFoldsUptoRow.holds Tryz.pinned (OpenSpec.upto kinkFoldsSpec)

/-- 'klippelaw40.KinkReturns', WHERE WHAT IT READS IS OF BULK AT MOST 1048576: true; the input reads as it did. -/
def kinkReturnsUptoRow : OpenClaim := { program := "ytokpkgcjjbdinaagreatdoor", sum := "c0be1ccf0cab1b5141aa3b28f4361bf153e35d67b0d4a19b74c911a41ecb7404", func := "klippe/klippelaw40.KinkReturns", spec := "kinkReturns", inPlace := ["internal/bytealg.IndexByteString", "internal/bytealg.IndexString", "internal/bytealg.abigen_runtime_cmpstring", "internal/abi.NoEscape"], unfollowed := true, recurses := true, named := ["internal/strconv.uint64pow10", "math/bits.deBruijn32tab", "math/bits.deBruijn64tab", "internal/bytealg.MaxLen", "strconv.ErrSyntax", "strconv.ErrRange"], apart := false, laid := [("math/bits.deBruijn32tab", laid_math_bits_deBruijn32tab), ("math/bits.deBruijn64tab", laid_math_bits_deBruijn64tab), ("internal/strconv.uint64pow10", laid_internal_strconv_uint64pow10), ("strconv.ErrRange", laid_strconv_ErrRange), ("strconv.ErrSyntax", laid_strconv_ErrSyntax)], narrowed := true }
def KinkReturnsUptoSaid : Prop := kinkReturnsUptoRow.holds Tryz.pinned (OpenSpec.upto kinkReturnsSpec)

/-- 'klippelaw40.KinkHeights', WHERE WHAT IT READS IS OF BULK AT MOST 1048576: true; the input reads as it did. -/
def kinkHeightsUptoRow : OpenClaim := { program := "ytokpkgcjjbdinaagreatdoor", sum := "c0be1ccf0cab1b5141aa3b28f4361bf153e35d67b0d4a19b74c911a41ecb7404", func := "klippe/klippelaw40.KinkHeights", spec := "kinkHeights", inPlace := ["internal/bytealg.IndexByteString", "internal/bytealg.IndexString", "internal/bytealg.abigen_runtime_cmpstring", "internal/abi.NoEscape"], unfollowed := true, recurses := true, named := ["internal/strconv.uint64pow10", "math/bits.deBruijn32tab", "math/bits.deBruijn64tab", "internal/bytealg.MaxLen", "strconv.ErrSyntax", "strconv.ErrRange"], apart := false, laid := [("math/bits.deBruijn32tab", laid_math_bits_deBruijn32tab), ("math/bits.deBruijn64tab", laid_math_bits_deBruijn64tab), ("internal/strconv.uint64pow10", laid_internal_strconv_uint64pow10), ("strconv.ErrRange", laid_strconv_ErrRange), ("strconv.ErrSyntax", laid_strconv_ErrSyntax)], narrowed := true }
def KinkHeightsUptoSaid : Prop := kinkHeightsUptoRow.holds Tryz.pinned (OpenSpec.upto kinkHeightsSpec)

/-- 'klippelaw40.KinkChecks', WHERE WHAT IT READS IS OF BULK AT MOST 1048576: true; the input reads as it did. -/
def kinkChecksUptoRow : OpenClaim := { program := "ytokpkgcjjbdinaagreatdoor", sum := "c0be1ccf0cab1b5141aa3b28f4361bf153e35d67b0d4a19b74c911a41ecb7404", func := "klippe/klippelaw40.KinkChecks", spec := "kinkChecks", inPlace := ["internal/bytealg.IndexByteString", "internal/bytealg.IndexString", "internal/bytealg.abigen_runtime_cmpstring", "internal/abi.NoEscape"], unfollowed := true, recurses := true, named := ["internal/strconv.uint64pow10", "math/bits.deBruijn32tab", "math/bits.deBruijn64tab", "internal/bytealg.MaxLen", "strconv.ErrSyntax", "strconv.ErrRange"], apart := false, laid := [("math/bits.deBruijn32tab", laid_math_bits_deBruijn32tab), ("math/bits.deBruijn64tab", laid_math_bits_deBruijn64tab), ("internal/strconv.uint64pow10", laid_internal_strconv_uint64pow10), ("strconv.ErrRange", laid_strconv_ErrRange), ("strconv.ErrSyntax", laid_strconv_ErrSyntax)], narrowed := true }
def KinkChecksUptoSaid : Prop := kinkChecksUptoRow.holds Tryz.pinned (OpenSpec.upto kinkChecksSpec)

/-- 'klippelaw40.KinkBeds', WHERE WHAT IT READS IS OF BULK AT MOST 1048576: true; the input reads as it did. -/
def kinkBedsUptoRow : OpenClaim := { program := "ytokpkgcjjbdinaagreatdoor", sum := "c0be1ccf0cab1b5141aa3b28f4361bf153e35d67b0d4a19b74c911a41ecb7404", func := "klippe/klippelaw40.KinkBeds", spec := "kinkBeds", inPlace := ["internal/bytealg.IndexByteString", "internal/bytealg.IndexString", "internal/bytealg.abigen_runtime_cmpstring", "internal/abi.NoEscape"], unfollowed := true, recurses := true, named := ["internal/strconv.uint64pow10", "math/bits.deBruijn32tab", "math/bits.deBruijn64tab", "internal/bytealg.MaxLen", "strconv.ErrSyntax", "strconv.ErrRange"], apart := false, laid := [("math/bits.deBruijn32tab", laid_math_bits_deBruijn32tab), ("math/bits.deBruijn64tab", laid_math_bits_deBruijn64tab), ("internal/strconv.uint64pow10", laid_internal_strconv_uint64pow10), ("strconv.ErrRange", laid_strconv_ErrRange), ("strconv.ErrSyntax", laid_strconv_ErrSyntax)], narrowed := true }
def KinkBedsUptoSaid : Prop := kinkBedsUptoRow.holds Tryz.pinned (OpenSpec.upto kinkBedsSpec)

/-- 'klippelaw40.KinkBalances', WHERE WHAT IT READS IS OF BULK AT MOST 1048576: true; the input reads as it did. -/
def kinkBalancesUptoRow : OpenClaim := { program := "ytokpkgcjjbdinaagreatdoor", sum := "c0be1ccf0cab1b5141aa3b28f4361bf153e35d67b0d4a19b74c911a41ecb7404", func := "klippe/klippelaw40.KinkBalances", spec := "kinkBalances", inPlace := ["internal/bytealg.IndexByteString", "internal/bytealg.IndexString", "internal/bytealg.abigen_runtime_cmpstring", "internal/abi.NoEscape"], unfollowed := true, recurses := true, named := ["internal/strconv.uint64pow10", "math/bits.deBruijn32tab", "math/bits.deBruijn64tab", "internal/bytealg.MaxLen", "strconv.ErrSyntax", "strconv.ErrRange"], apart := false, laid := [("math/bits.deBruijn32tab", laid_math_bits_deBruijn32tab), ("math/bits.deBruijn64tab", laid_math_bits_deBruijn64tab), ("internal/strconv.uint64pow10", laid_internal_strconv_uint64pow10), ("strconv.ErrRange", laid_strconv_ErrRange), ("strconv.ErrSyntax", laid_strconv_ErrSyntax)], narrowed := true }
def KinkBalancesUptoSaid : Prop := kinkBalancesUptoRow.holds Tryz.pinned (OpenSpec.upto kinkBalancesSpec)

end Rows
end Go.Proofs.YtokpkgcjjbdinaaGreatDoor
