/- The pure readings of functions of this seat, printed by program (pcfile.py). Own work. -/
import Derived.Test.YtokpkgcjjbdinaaGreatDoorProg
import Derived.Test.YtokpkgcjjbdinaaGreatDoorRa
import Derived.Test.YtokpkgcjjbdinaaGreatDoorPl
import Derived.KernelRfl
namespace Go.Proofs
open Go Go.Pi Go.RowKit
set_option maxRecDepth 100000
set_option linter.unusedVariables false
set_option linter.unusedSimpArgs false
/-- klippe/kink.result -/
def pc81 : PC := .seq (.reg [ oU 2 (.cp (.k (.str []))),oU 3 (.cp (.k (.int .i64 0)))] [0]) (.seq (.seq (.reg [ oC 4 0,oU 5 (.call 54 [.v 4]),oU 6 (.ci .neq (.v 5) (.k (.int .i64 0)))] [0,6]) (.cnd (.v 6) (.seq (.reg [ oU 2 (.cp (.k (.str []))),oU 3 (.cp (.k (.int .i64 4)))] [2,3]) (.ret)) (.skip))) (.seq (.reg [ oC 7 0,oC 2 7,oU 3 (.cp (.k (.int .i64 0)))] [2,3]) (.ret)))
def rs81 : List RV := [.t 2, .t 3]
theorem chk81 : chkFn Tryz.prog Tryz.f81 1 pc81 rs81 = true := by kernel_rfl
theorem rule81 : Rl 81 1 pc81 rs81 := rlM Tryz.func81 chk81

/-- klippe/kink.places -/
def pc82 : PC := .seq (.reg [ oU 2 (.nil 25),oU 3 (.cp (.k (.int .i64 0)))] [0]) (.seq (.seq (.reg [ oC 8 0,oU 9 (.len (.v 8)),oU 10 (.cp (.k (.int .i64 0)))] [0,8,9,10]) (.blk 0 (.loop (.seq (.reg [ oU 11 (.ci .lss (.v 10) (.v 9))] [0,8,9,10,11]) (.seq (.cnd (.v 11) (.skip) (.exit 0)) (.seq (.blk 1 (.seq (.reg [ oU 12 (.ia 2 (.v 8) (.v 10)),oU 13 (.ld true 2 (.v 12)),oU 5 (.alloc [.str [],.str []]),⟨none,.st 2 (.v 5) (.v 13),none⟩] [0,5,8,9,10]) (.seq (.reg [ oU 15 (.ld true 2 (.v 5)),oU 16 (.call 55 [.v 15]),oC 14 16,oU 17 (.ext 14 0),oU 18 (.ext 14 1),oU 6 (.alloc [.str [],.str []]),⟨none,.st 2 (.v 6) (.v 17),none⟩,oC 7 18] [0,7,8,9,10]) (.seq (.reg [ oC 19 7,oU 20 (.ci .neq (.v 19) (.k (.int .i64 0)))] [0,7,8,9,10,20]) (.cnd (.v 20) (.seq (.reg [ oC 21 7,oU 2 (.nil 25),oC 3 21] [2,3]) (.ret)) (.skip)))))) (.reg [ oU 22 (.ari .add .i64 (.v 10) (.k (.int .i64 1))),oC 10 22] [0,8,9,10]))))))) (.seq (.reg [ oC 23 0,oC 2 23,oU 3 (.cp (.k (.int .i64 0)))] [2,3]) (.ret)))
def rs82 : List RV := [.t 2, .t 3]
theorem chk82 : chkFn Tryz.prog Tryz.f82 1 pc82 rs82 = true := by kernel_rfl
theorem rule82 : Rl 82 1 pc82 rs82 := rlM Tryz.func82 chk82

/-- klippe/kink.plus -/
def pc83 : PC := .seq (.reg [ oU 3 (.bx 2 (.v 0)),oU 4 (.bx 2 (.v 1)),oU 6 (.alloc [.str [],.str []])] [2,3,4,6]) (.seq (.reg [ oU 7 (.fa 0 (.v 3)),oU 8 (.ld false 1 (.o 7 3)),oC 9 2,oU 10 (.fa 0 (.v 4)),oU 11 (.ld false 1 (.o 10 4)),oU 12 (.call 29 [.v 9,.v 11]),oU 13 (.call 23 [.v 8,.v 12]),oU 14 (.fa 1 (.v 3)),oU 15 (.ld false 1 (.o 14 3)),oC 16 2,oU 17 (.fa 1 (.v 4)),oU 18 (.ld false 1 (.o 17 4)),oU 19 (.call 29 [.v 16,.v 18]),oU 20 (.call 23 [.v 15,.v 19]),oU 21 (.bld [.str [],.str []] [(0,1,.v 13),(1,1,.v 20)]),⟨none,.st 2 (.v 6) (.v 21),none⟩] [6]) (.ret))
def rs83 : List RV := [.c 6 true 2]
theorem chk83 : chkFn Tryz.prog Tryz.f83 3 pc83 rs83 = true := by kernel_rfl
theorem rule83 : Rl 83 3 pc83 rs83 := rlM Tryz.func83 chk83

/-- klippe/integer.Compare -/
def pc84 : PC := .seq (.reg [ oU 4 (.cp (.k (.int .i64 0)))] [0,1]) (.seq (.reg [ oC 9 0,oU 10 (.call 104 [.v 9]),oC 11 1,oU 12 (.call 104 [.v 11]),oC 5 10,oC 6 12] [0,1,5,6]) (.seq (.seq (.reg [ oC 13 5,oC 14 6,oU 15 (.ci .neq (.v 13) (.v 14))] [0,1,5,6,15]) (.cnd (.v 15) (.seq (.seq (.reg [ oC 16 5,oC 17 6,oU 18 (.ci .lss (.v 16) (.v 17))] [18]) (.cnd (.v 18) (.seq (.reg [ oU 4 (.cp (.k (.int .i64 (-1))))] [4]) (.ret)) (.skip))) (.seq (.reg [ oU 4 (.cp (.k (.int .i64 1)))] [4]) (.ret))) (.skip))) (.seq (.reg [ oC 19 0,oU 20 (.call 117 [.v 19,.k (.str [45])]),oC 21 1,oU 22 (.call 117 [.v 21,.k (.str [45])]),oC 7 20,oC 8 22] [5,7,8]) (.seq (.seq (.reg [ oC 23 7,oU 24 (.lenS (.v 23)),oC 25 8,oU 26 (.lenS (.v 25)),oU 27 (.ci .neq (.v 24) (.v 26))] [5,7,8,27]) (.cnd (.v 27) (.seq (.seq (.reg [ oC 28 7,oU 29 (.lenS (.v 28)),oC 30 8,oU 31 (.lenS (.v 30)),oU 32 (.ci .lss (.v 29) (.v 31))] [5,32]) (.cnd (.v 32) (.seq (.reg [ oC 33 5,oU 34 (.ng .i64 (.v 33)),oC 4 34] [4]) (.ret)) (.skip))) (.seq (.reg [ oC 35 5,oC 4 35] [4]) (.ret))) (.skip))) (.seq (.reg [ oC 36 5,oC 37 7,oC 38 8,oU 39 (.call 118 [.v 37,.v 38]),oU 40 (.ari .mul .i64 (.v 36) (.v 39)),oC 4 40] [4]) (.ret))))))
def rs84 : List RV := [.t 4]
theorem chk84 : chkFn Tryz.prog Tryz.f84 2 pc84 rs84 = true := by kernel_rfl
theorem rule84 : Rl 84 2 pc84 rs84 := rlM Tryz.func84 chk84

/-- klippe/rational.Abs -/
def pc85 : PC := .seq (.reg [ oU 2 (.cp (.k (.str [])))] [0]) (.seq (.seq (.reg [ oC 3 0,oU 4 (.ix (.v 3) (.k (.int .i64 0))),oU 5 (.ci .eql (.v 4) (.k (.int .u8 45)))] [0,5]) (.cnd (.v 5) (.seq (.reg [ oC 6 0,oU 7 (.slS (.v 6) (some (.k (.int .i64 1))) none),oC 2 7] [2]) (.ret)) (.skip))) (.seq (.reg [ oC 8 0,oC 2 8] [2]) (.ret)))
def rs85 : List RV := [.t 2]
theorem chk85 : chkFn Tryz.prog Tryz.f85 1 pc85 rs85 = true := by kernel_rfl
theorem rule85 : Rl 85 1 pc85 rs85 := rlM Tryz.func85 chk85

/-- klippe/integer.Root -/
def pc86 : PC := .seq (.reg [ oU 2 (.cp (.k (.str []))),oU 3 (.cp (.k (.int .i64 0)))] [0]) (.seq (.seq (.reg [ oC 10 0,oU 11 (.call 104 [.v 10]),oU 12 (.ci .lss (.v 11) (.k (.int .i64 0)))] [0,12]) (.cnd (.v 12) (.seq (.reg [ oU 2 (.cp (.k (.str []))),oU 3 (.cp (.k (.int .i64 3)))] [2,3]) (.ret)) (.skip))) (.seq (.reg [ oC 13 0,oU 14 (.call 109 [.v 13]),oU 15 (.fld false 1 1 (.v 14)),oC 4 15] [4]) (.seq (.seq (.reg [ oC 16 4,oU 17 (.len (.v 16)),oU 18 (.ci .eql (.v 17) (.k (.int .i64 0)))] [4,18]) (.cnd (.v 18) (.seq (.reg [ oU 2 (.cp (.k (.str [48]))),oU 3 (.cp (.k (.int .i64 0)))] [2,3]) (.ret)) (.skip))) (.seq (.reg [ oC 19 4,oU 20 (.len (.v 19)),oU 21 (.ari .add .i64 (.v 20) (.k (.int .i64 1))),oU 22 (.ari .quo .i64 (.v 21) (.k (.int .i64 2))),oU 23 (.mkS 170 [.int .u64 0] 8 (.v 22) (.v 22)),oU 24 (.bldS 170 [.int .u64 0] 1 [(0,1,.k (.int .u64 1))]),oU 25 (.app 170 1 8 (.v 23) (.v 24)),oU 5 (.tk 25)] [4,5]) (.blk 0 (.loop (.blk 1 (.seq (.reg [ oC 27 4,oU 28 (.mv (.v 5)),oU 29 (.call 119 [.v 27,.o 28 5]),oC 26 29,oU 30 (.ext 26 0),oU 31 (.ext 26 1),oC 6 30,oC 7 31] [4,5,6]) (.seq (.reg [ oU 33 (.mv (.v 5)),oC 34 6,oU 35 (.call 110 [.o 33 5,.v 34]),oU 36 (.bldS 170 [.int .u64 0] 1 [(0,1,.k (.int .u64 2))]),oU 37 (.call 119 [.v 35,.v 36]),oC 32 37,oU 38 (.ext 32 0),oU 39 (.ext 32 1),oC 8 38,oC 9 39] [4,5,8]) (.seq (.seq (.reg [ oC 40 8,oU 41 (.mv (.v 5)),oU 42 (.call 112 [.v 40,.o 41 5]),oU 43 (.ci .geq (.v 42) (.k (.int .i64 0)))] [4,5,8,43]) (.cnd (.v 43) (.seq (.reg [ oU 44 (.sh (.v 5)),oU 45 (.bld [.bool false,.sl 0 []] [(0,1,.k (.bool false)),(1,1,.v 44)]),oU 46 (.call 111 [.v 45]),oC 2 46,oU 3 (.cp (.k (.int .i64 0)))] [2,3]) (.ret)) (.skip))) (.reg [ oC 47 8,oC 5 47] [4,5])))))))))))
def rs86 : List RV := [.t 2, .t 3]
theorem chk86 : chkFn Tryz.prog Tryz.f86 1 pc86 rs86 = true := by kernel_rfl
theorem rule86 : Rl 86 1 pc86 rs86 := rlM Tryz.func86 chk86

/-- klippe/rational.join -/
def pc87 : PC := .seq (.reg [ oU 4 (.cp (.k (.str [])))] [0,1]) (.seq (.seq (.reg [ oC 5 1,oU 6 (.sc .eql (.v 5) (.k (.str [49])))] [0,1,6]) (.cnd (.v 6) (.seq (.reg [ oC 7 0,oC 4 7] [4]) (.ret)) (.skip))) (.seq (.reg [ oC 8 0,oU 9 (.cat (.v 8) (.k (.str [47]))),oC 10 1,oU 11 (.cat (.v 9) (.v 10)),oC 4 11] [4]) (.ret)))
def rs87 : List RV := [.t 4]
theorem chk87 : chkFn Tryz.prog Tryz.f87 2 pc87 rs87 = true := by kernel_rfl
theorem rule87 : Rl 87 2 pc87 rs87 := rlM Tryz.func87 chk87

/-- klippe/surd.root -/
def pc88 : PC := .seq (.reg [ oU 2 (.cp (.k (.str []))),oU 3 (.cp (.k (.bool false)))] [0]) (.seq (.reg [ oC 7 0,oU 8 (.call 86 [.v 7]),oC 6 8,oU 9 (.ext 6 0),oU 10 (.ext 6 1),oC 4 9,oC 5 10] [0,4]) (.seq (.reg [ oC 11 4,oC 12 4,oC 13 4,oU 14 (.call 72 [.v 12,.v 13]),oC 15 0,oU 16 (.sc .eql (.v 14) (.v 15)),oC 2 11,oC 3 16] [2,3]) (.ret)))
def rs88 : List RV := [.t 2, .t 3]
theorem chk88 : chkFn Tryz.prog Tryz.f88 1 pc88 rs88 = true := by kernel_rfl
theorem rule88 : Rl 88 1 pc88 rs88 := rlM Tryz.func88 chk88

/-- klippe/surd.From -/
def pc89 : PC := .seq (.reg [ oU 2 (.nil 141),oU 3 (.cp (.k (.int .i64 0)))] [0]) (.seq (.blk 0 (.seq (.reg [ oC 5 0,oU 6 (.call 54 [.v 5]),oU 7 (.ci .neq (.v 6) (.k (.int .i64 0))),oC 4 7] [0,4]) (.cnd (.v 4) (.seq (.reg [ oU 2 (.nil 141),oU 3 (.cp (.k (.int .i64 2)))] [2,3]) (.ret)) (.seq (.reg [ oC 9 0,oU 10 (.sc .eql (.v 9) (.k (.str [48]))),oC 8 10] [0,8]) (.cnd (.v 8) (.seq (.reg [ oU 2 (.nil 141),oU 3 (.cp (.k (.int .i64 0)))] [2,3]) (.ret)) (.skip)))))) (.seq (.reg [ oC 11 0,oU 12 (.bld [.str [],.str []] [(0,1,.v 11),(1,1,.k (.str [49]))]),oU 13 (.bldS 141 [.str [],.str []] 1 [(0,2,.v 12)]),oU 2 (.tk 13),oU 3 (.cp (.k (.int .i64 0)))] [2,3]) (.ret)))
def rs89 : List RV := [.t 2, .t 3]
theorem chk89 : chkFn Tryz.prog Tryz.f89 1 pc89 rs89 = true := by kernel_rfl
theorem rule89 : Rl 89 1 pc89 rs89 := rlM Tryz.func89 chk89

/-- klippe/surd.over -/
def pc90 : PC := .seq (.reg [ oU 4 (.cp (.k (.str [])))] [0,1]) (.seq (.reg [ oC 8 0,oC 9 1,oU 10 (.call 65 [.v 8,.v 9]),oC 7 10,oU 11 (.ext 7 0),oU 12 (.ext 7 1),oC 5 11,oC 6 12] [5]) (.seq (.reg [ oC 13 5,oC 4 13] [4]) (.ret)))
def rs90 : List RV := [.t 4]
theorem chk90 : chkFn Tryz.prog Tryz.f90 2 pc90 rs90 = true := by kernel_rfl
theorem rule90 : Rl 90 2 pc90 rs90 := rlM Tryz.func90 chk90

/-- klippe/surd.result -/
def pc91 : PC := .seq (.reg [ oU 2 (.nil 141),oU 3 (.cp (.k (.int .i64 0)))] [0]) (.seq (.seq (.reg [ oC 4 0,oU 5 (.len (.v 4)),oU 6 (.ci .gtr (.v 5) (.k (.int .i64 40))),oC 7 6,⟨some 8,.cp (.v 0),(some (7,false))⟩,⟨some 9,.call 120 [.v 8,.k (.clo 121 [])],(some (7,false))⟩,oU 10 (.pick (.v 7) (.k (.bool true)) (.v 9))] [0,10]) (.cnd (.v 10) (.seq (.reg [ oU 2 (.nil 141),oU 3 (.cp (.k (.int .i64 4)))] [2,3]) (.ret)) (.skip))) (.seq (.reg [ oC 11 0,oC 2 11,oU 3 (.cp (.k (.int .i64 0)))] [2,3]) (.ret)))
def rs91 : List RV := [.t 2, .t 3]
theorem chk91 : chkFn Tryz.prog Tryz.f91 1 pc91 rs91 = true := by kernel_rfl
theorem rule91 : Rl 91 1 pc91 rs91 := rlM Tryz.func91 chk91

/-- klippe/surd.checkAll -/
def pc92 : PC := .seq (.reg [ oU 2 (.cp (.k (.int .i64 0)))] [0]) (.seq (.seq (.reg [ oC 6 0,oU 7 (.len (.v 6)),oU 8 (.cp (.k (.int .i64 0)))] [6,7,8]) (.blk 0 (.loop (.seq (.reg [ oU 9 (.ci .lss (.v 8) (.v 7))] [6,7,8,9]) (.seq (.cnd (.v 9) (.skip) (.exit 0)) (.seq (.blk 1 (.seq (.reg [ oU 10 (.ia 1 (.v 6) (.v 8)),oU 11 (.ld false 1 (.v 10)),oC 4 11] [4,6,7,8]) (.seq (.reg [ oC 12 4,oU 13 (.call 95 [.v 12]),oC 5 13] [5,6,7,8]) (.seq (.reg [ oC 14 5,oU 15 (.ci .neq (.v 14) (.k (.int .i64 0)))] [5,6,7,8,15]) (.cnd (.v 15) (.seq (.reg [ oC 16 5,oC 2 16] [2]) (.ret)) (.skip)))))) (.reg [ oU 17 (.ari .add .i64 (.v 8) (.k (.int .i64 1))),oC 8 17] [6,7,8]))))))) (.seq (.reg [ oU 2 (.cp (.k (.int .i64 0)))] [2]) (.ret)))
def rs92 : List RV := [.t 2]
theorem chk92 : chkFn Tryz.prog Tryz.f92 1 pc92 rs92 = true := by kernel_rfl
theorem rule92 : Rl 92 1 pc92 rs92 := rlM Tryz.func92 chk92

/-- klippe/surd.Sum$1 -/
def pc94 : PC := .seq (.reg [ oU 2 (.cp (.k (.str [])))] []) (.seq (.reg [ oU 2 (.cp (.k (.str [49])))] [2]) (.ret))
def rs94 : List RV := [.t 2]
theorem chk94 : chkFn Tryz.prog Tryz.f94 1 pc94 rs94 = true := by kernel_rfl
theorem rule94 : Rl 94 1 pc94 rs94 := rlM Tryz.func94 chk94

/-- klippe/surd.Check -/
def pc95 : PC := .seq (.reg [ oU 2 (.cp (.k (.int .i64 0)))] [0]) (.seq (.seq (.reg [ oC 7 0,oU 8 (.len (.v 7)),oU 9 (.ci .gtr (.v 8) (.k (.int .i64 40)))] [0,9]) (.cnd (.v 9) (.seq (.reg [ oU 2 (.cp (.k (.int .i64 4)))] [2]) (.ret)) (.skip))) (.seq (.seq (.reg [ oC 10 0,oU 11 (.len (.v 10)),oU 12 (.cp (.k (.int .i64 0)))] [0,10,11,12]) (.blk 0 (.loop (.seq (.reg [ oU 13 (.ci .lss (.v 12) (.v 11))] [0,10,11,12,13]) (.seq (.cnd (.v 13) (.skip) (.exit 0)) (.seq (.blk 1 (.seq (.reg [ oC 14 12,oU 15 (.ia 2 (.v 10) (.v 12)),oU 16 (.ld true 2 (.v 15)),oU 4 (.alloc [.str [],.str []]),oC 3 14,⟨none,.st 2 (.v 4) (.v 16),none⟩] [0,3,4,10,11,12]) (.seq (.blk 2 (.seq (.reg [ oU 18 (.fa 0 (.v 4)),oU 19 (.ld false 1 (.o 18 4)),oU 20 (.call 54 [.v 19]),oU 21 (.ci .neq (.v 20) (.k (.int .i64 0))),oC 17 21] [0,3,4,10,11,12,17]) (.cnd (.v 17) (.seq (.reg [ oU 2 (.cp (.k (.int .i64 2)))] [2]) (.ret)) (.seq (.reg [ oU 23 (.fa 0 (.v 4)),oU 24 (.ld false 1 (.o 23 4)),oU 25 (.sc .eql (.v 24) (.k (.str [48]))),oC 22 25] [0,3,4,10,11,12,22]) (.cnd (.v 22) (.seq (.reg [ oU 2 (.cp (.k (.int .i64 17)))] [2]) (.ret)) (.seq (.reg [ oU 27 (.fa 1 (.v 4)),oU 28 (.ld false 1 (.o 27 4)),oU 29 (.call 100 [.v 28]),oU 30 (.ci .neq (.v 29) (.k (.int .i64 0))),oC 26 30] [0,3,4,10,11,12,26]) (.cnd (.v 26) (.seq (.reg [ oU 2 (.cp (.k (.int .i64 2)))] [2]) (.ret)) (.seq (.reg [ oU 32 (.fa 1 (.v 4)),oU 33 (.ld false 1 (.o 32 4)),oU 34 (.call 104 [.v 33]),oU 35 (.ci .leq (.v 34) (.k (.int .i64 0))),oC 31 35] [0,3,4,10,11,12,31]) (.cnd (.v 31) (.seq (.reg [ oU 2 (.cp (.k (.int .i64 3)))] [2]) (.ret)) (.skip)))))))))) (.seq (.seq (.reg [ oU 37 (.fa 1 (.v 4)),oU 38 (.ld false 1 (.o 37 4)),oU 39 (.call 88 [.v 38]),oC 36 39,oU 40 (.ext 36 0),oU 41 (.ext 36 1),oC 5 40,oC 6 41] [0,3,4,6,10,11,12]) (.seq (.reg [ oC 42 6,oC 43 42,⟨some 44,.fa 1 (.v 4),(some (43,true))⟩,⟨some 45,.ld false 1 (.o 44 4),(some (43,true))⟩,⟨some 46,.sc .neq (.v 45) (.k (.str [49])),(some (43,true))⟩,oU 47 (.pick (.v 43) (.v 46) (.k (.bool false)))] [0,3,4,10,11,12,47]) (.cnd (.v 47) (.seq (.reg [ oU 2 (.cp (.k (.int .i64 7)))] [2]) (.ret)) (.skip)))) (.seq (.seq (.reg [ oC 48 3,oU 49 (.ci .gtr (.v 48) (.k (.int .i64 0))),oC 50 49,⟨some 51,.cp (.v 0),(some (50,true))⟩,⟨some 52,.cp (.v 3),(some (50,true))⟩,⟨some 53,.ari .sub .i64 (.v 52) (.k (.int .i64 1)),(some (50,true))⟩,⟨some 54,.ia 2 (.v 51) (.v 53),(some (50,true))⟩,⟨some 55,.fa 1 (.v 54),(some (50,true))⟩,⟨some 56,.ld false 1 (.o 55 54),(some (50,true))⟩,⟨some 57,.fa 1 (.v 4),(some (50,true))⟩,⟨some 58,.ld false 1 (.o 57 4),(some (50,true))⟩,⟨some 59,.call 84 [.v 56,.v 58],(some (50,true))⟩,⟨some 60,.ci .geq (.v 59) (.k (.int .i64 0)),(some (50,true))⟩,oU 61 (.pick (.v 50) (.v 60) (.k (.bool false)))] [0,3,4,10,11,12,61]) (.cnd (.v 61) (.seq (.reg [ oU 2 (.cp (.k (.int .i64 6)))] [2]) (.ret)) (.skip))) (.seq (.reg [ oC 62 0,oC 63 3,oU 64 (.slc 2 (.v 62) none (some (.v 63))),oU 65 (.mkf 127 [.v 4]),oU 66 (.call 120 [.v 64,.v 65])] [0,10,11,12,66]) (.cnd (.v 66) (.seq (.reg [ oU 2 (.cp (.k (.int .i64 7)))] [2]) (.ret)) (.skip)))))))) (.reg [ oU 67 (.ari .add .i64 (.v 12) (.k (.int .i64 1))),oC 12 67] [0,10,11,12]))))))) (.seq (.reg [ oU 2 (.cp (.k (.int .i64 0)))] [2]) (.ret))))
def rs95 : List RV := [.t 2]
theorem chk95 : chkFn Tryz.prog Tryz.f95 1 pc95 rs95 = true := by kernel_rfl
theorem rule95 : Rl 95 1 pc95 rs95 := rlM Tryz.func95 chk95

/-- klippe/vector.points -/
def pc96 : PC := .seq (.reg [ oU 2 (.cp (.k (.int .i64 0)))] [0]) (.seq (.seq (.reg [ oC 6 0,oU 7 (.len (.v 6)),oU 8 (.cp (.k (.int .i64 0)))] [6,7,8]) (.blk 0 (.loop (.seq (.reg [ oU 9 (.ci .lss (.v 8) (.v 7))] [6,7,8,9]) (.seq (.cnd (.v 9) (.skip) (.exit 0)) (.seq (.blk 1 (.seq (.reg [ oU 10 (.ia 2 (.v 6) (.v 8)),oU 11 (.ld true 2 (.v 10)),oU 4 (.alloc [.str [],.str []]),⟨none,.st 2 (.v 4) (.v 11),none⟩] [4,6,7,8]) (.seq (.reg [ oU 12 (.ld true 2 (.v 4)),oU 13 (.call 61 [.v 12]),oC 5 13] [5,6,7,8]) (.seq (.reg [ oC 14 5,oU 15 (.ci .neq (.v 14) (.k (.int .i64 0)))] [5,6,7,8,15]) (.cnd (.v 15) (.seq (.reg [ oC 16 5,oC 2 16] [2]) (.ret)) (.skip)))))) (.reg [ oU 17 (.ari .add .i64 (.v 8) (.k (.int .i64 1))),oC 8 17] [6,7,8]))))))) (.seq (.reg [ oU 2 (.cp (.k (.int .i64 0)))] [2]) (.ret)))
def rs96 : List RV := [.t 2]
theorem chk96 : chkFn Tryz.prog Tryz.f96 1 pc96 rs96 = true := by kernel_rfl
theorem rule96 : Rl 96 1 pc96 rs96 := rlM Tryz.func96 chk96

/-- klippe/vector.number -/
def pc97 : PC := .seq (.reg [ oU 2 (.cp (.k (.str []))),oU 3 (.cp (.k (.int .i64 0)))] [0]) (.seq (.seq (.reg [ oC 4 0,oU 5 (.call 129 [.v 4])] [0,5]) (.cnd (.v 5) (.seq (.reg [ oU 2 (.cp (.k (.str []))),oU 3 (.cp (.k (.int .i64 4)))] [2,3]) (.ret)) (.skip))) (.seq (.reg [ oC 6 0,oC 2 6,oU 3 (.cp (.k (.int .i64 0)))] [2,3]) (.ret)))
def rs97 : List RV := [.t 2, .t 3]
theorem chk97 : chkFn Tryz.prog Tryz.f97 1 pc97 rs97 = true := by kernel_rfl
theorem rule97 : Rl 97 1 pc97 rs97 := rlM Tryz.func97 chk97

/-- klippe/vector.area -/
def pc98 : PC := .seq (.reg [ oU 3 (.bx 2 (.v 0)),oU 4 (.bx 2 (.v 1)),oU 5 (.bx 2 (.v 2)),oU 6 (.cp (.k (.str [])))] [3,4,5]) (.seq (.reg [ oU 7 (.fa 0 (.v 4)),oU 8 (.ld false 1 (.o 7 4)),oU 9 (.fa 0 (.v 3)),oU 10 (.ld false 1 (.o 9 3)),oU 11 (.call 30 [.v 8,.v 10]),oU 12 (.fa 1 (.v 4)),oU 13 (.ld false 1 (.o 12 4)),oU 14 (.fa 1 (.v 3)),oU 15 (.ld false 1 (.o 14 3)),oU 16 (.call 30 [.v 13,.v 15]),oU 17 (.fa 0 (.v 5)),oU 18 (.ld false 1 (.o 17 5)),oU 19 (.fa 0 (.v 3)),oU 20 (.ld false 1 (.o 19 3)),oU 21 (.call 30 [.v 18,.v 20]),oU 22 (.fa 1 (.v 5)),oU 23 (.ld false 1 (.o 22 5)),oU 24 (.fa 1 (.v 3)),oU 25 (.ld false 1 (.o 24 3)),oU 26 (.call 30 [.v 23,.v 25]),oU 27 (.call 130 [.v 11,.v 16,.v 21,.v 26]),oC 6 27] [6]) (.ret))
def rs98 : List RV := [.t 6]
theorem chk98 : chkFn Tryz.prog Tryz.f98 3 pc98 rs98 = true := by kernel_rfl
theorem rule98 : Rl 98 3 pc98 rs98 := rlM Tryz.func98 chk98

/-- strings.Cut -/
def pc99 : PC := .seq (.reg [ oU 4 (.cp (.k (.str []))),oU 5 (.cp (.k (.str []))),oU 6 (.cp (.k (.bool false)))] [0,1]) (.seq (.reg [ oC 7 0,oC 8 1,oU 9 (.call 131 [.v 7,.v 8]),oU 10 (.ext 9 0),oU 11 (.ext 9 1),oU 12 (.ext 9 2),oC 4 10,oC 5 11,oC 6 12] [4,5,6]) (.ret))
def rs99 : List RV := [.t 4, .t 5, .t 6]
theorem chk99 : chkFn Tryz.prog Tryz.f99 2 pc99 rs99 = true := by kernel_rfl
theorem rule99 : Rl 99 2 pc99 rs99 := rlM Tryz.func99 chk99

/-- klippe/integer.Check -/
def pc100 : PC := .seq (.reg [ oU 2 (.cp (.k (.int .i64 0)))] [0]) (.seq (.reg [ oC 7 0,oU 8 (.call 132 [.v 7,.k (.str [45])]),oC 6 8,oU 9 (.ext 6 0),oU 10 (.ext 6 1),oC 3 9,oC 4 10] [3,4]) (.seq (.seq (.reg [ oC 11 3,oU 12 (.sc .eql (.v 11) (.k (.str []))),oC 13 12,⟨some 14,.cp (.v 3),(some (13,false))⟩,⟨some 15,.lenS (.v 14),(some (13,false))⟩,⟨some 16,.ci .gtr (.v 15) (.k (.int .i64 200)),(some (13,false))⟩,oU 17 (.pick (.v 13) (.k (.bool true)) (.v 16)),oC 18 17,⟨some 19,.cp (.v 3),(some (18,false))⟩,⟨some 20,.ix (.v 19) (.k (.int .i64 0)),(some (18,false))⟩,⟨some 21,.ci .eql (.v 20) (.k (.int .u8 48)),(some (18,false))⟩,⟨some 22,.cp (.v 21),(some (18,false))⟩,⟨some 23,.cp (.v 3),(some (22,true))⟩,⟨some 24,.lenS (.v 23),(some (22,true))⟩,⟨some 25,.ci .gtr (.v 24) (.k (.int .i64 1)),(some (22,true))⟩,⟨some 26,.cp (.v 25),(some (22,true))⟩,⟨some 27,.cp (.v 4),(some (26,false))⟩,⟨some 28,.pick (.v 26) (.k (.bool true)) (.v 27),(some (22,true))⟩,⟨some 29,.pick (.v 22) (.v 28) (.k (.bool false)),(some (18,false))⟩,oU 30 (.pick (.v 18) (.k (.bool true)) (.v 29))] [3,30]) (.cnd (.v 30) (.seq (.reg [ oU 2 (.cp (.k (.int .i64 2)))] [2]) (.ret)) (.skip))) (.seq (.seq (.reg [ oC 31 3,oU 32 (.lenS (.v 31)),oU 33 (.cp (.k (.int .i64 0)))] [3,32,33]) (.blk 0 (.loop (.seq (.reg [ oU 34 (.ci .lss (.v 33) (.v 32))] [3,32,33,34]) (.seq (.cnd (.v 34) (.skip) (.exit 0)) (.seq (.blk 1 (.seq (.reg [ oC 35 33,oC 5 35] [3,5,32,33]) (.seq (.reg [ oC 36 3,oC 37 5,oU 38 (.ix (.v 36) (.v 37)),oU 39 (.ci .lss (.v 38) (.k (.int .u8 48))),oC 40 39,⟨some 41,.cp (.v 3),(some (40,false))⟩,⟨some 42,.cp (.v 5),(some (40,false))⟩,⟨some 43,.ix (.v 41) (.v 42),(some (40,false))⟩,⟨some 44,.ci .gtr (.v 43) (.k (.int .u8 57)),(some (40,false))⟩,oU 45 (.pick (.v 40) (.k (.bool true)) (.v 44))] [3,32,33,45]) (.cnd (.v 45) (.seq (.reg [ oU 2 (.cp (.k (.int .i64 2)))] [2]) (.ret)) (.skip))))) (.reg [ oU 46 (.ari .add .i64 (.v 33) (.k (.int .i64 1))),oC 33 46] [3,32,33]))))))) (.seq (.reg [ oU 2 (.cp (.k (.int .i64 0)))] [2]) (.ret)))))
def rs100 : List RV := [.t 2]
theorem chk100 : chkFn Tryz.prog Tryz.f100 1 pc100 rs100 = true := by kernel_rfl
theorem rule100 : Rl 100 1 pc100 rs100 := rlM Tryz.func100 chk100

/-- klippe/integer.Gcd -/
def pc101 : PC := .seq (.reg [ oU 4 (.cp (.k (.str [])))] [0,1]) (.seq (.seq (.reg [ oC 14 0,oU 15 (.call 108 [.v 14,.k (.int .i64 18)]),oC 13 15,oU 16 (.ext 13 0),oU 17 (.ext 13 1),oC 5 16,oC 6 17] [0,1,5,6]) (.seq (.reg [ oC 18 6] [0,1,5,18]) (.cnd (.v 18) (.seq (.reg [ oC 20 1,oU 21 (.call 108 [.v 20,.k (.int .i64 18)]),oC 19 21,oU 22 (.ext 19 0),oU 23 (.ext 19 1),oC 7 22,oC 8 23] [0,1,5,7,8]) (.seq (.reg [ oC 24 8] [0,1,5,7,24]) (.cnd (.v 24) (.seq (.blk 0 (.loop (.seq (.seq (.reg [ oC 25 7,oU 26 (.ci .neq (.v 25) (.k (.int .i64 0)))] [5,7,26]) (.cnd (.v 26) (.skip) (.exit 0))) (.blk 1 (.reg [ oC 27 7,oC 28 5,oC 29 7,oU 30 (.ari .rem .i64 (.v 28) (.v 29)),oC 5 27,oC 7 30] [5,7]))))) (.seq (.reg [ oC 31 5,oC 32 5,oU 33 (.ng .i64 (.v 32)),oU 34 (.mm true [.v 31,.v 33]),oU 35 (.call 66 [.v 34]),oC 4 35] [4]) (.ret))) (.skip)))) (.skip)))) (.seq (.reg [ oC 36 0,oU 37 (.call 109 [.v 36]),oU 38 (.fld false 1 1 (.v 37)),oC 39 1,oU 40 (.call 109 [.v 39]),oU 41 (.fld false 1 1 (.v 40)),oC 9 38,oC 10 41] [9,10]) (.seq (.blk 2 (.loop (.seq (.seq (.reg [ oC 42 10,oU 43 (.len (.v 42)),oU 44 (.ci .gtr (.v 43) (.k (.int .i64 0)))] [9,10,44]) (.cnd (.v 44) (.skip) (.exit 2))) (.blk 3 (.seq (.reg [ oC 46 9,oC 47 10,oU 48 (.call 119 [.v 46,.v 47]),oC 45 48,oU 49 (.ext 45 0),oU 50 (.ext 45 1),oC 11 49,oC 12 50] [10,12]) (.reg [ oC 51 10,oC 52 12,oC 9 51,oC 10 52] [9,10])))))) (.seq (.reg [ oC 53 9,oU 54 (.bld [.bool false,.sl 0 []] [(0,1,.k (.bool false)),(1,1,.v 53)]),oU 55 (.call 111 [.v 54]),oC 4 55] [4]) (.ret)))))
def rs101 : List RV := [.t 4]
theorem chk101 : chkFn Tryz.prog Tryz.f101 2 pc101 rs101 = true := by kernel_rfl
theorem rule101 : Rl 101 2 pc101 rs101 := rlM Tryz.func101 chk101

/-- klippe/rational.Div -/
def pc102 : PC := .seq (.reg [ oU 4 (.cp (.k (.str []))),oU 5 (.cp (.k (.int .i64 0)))] [0,1]) (.seq (.seq (.reg [ oC 8 1,oU 9 (.sc .eql (.v 8) (.k (.str [48])))] [0,1,9]) (.cnd (.v 9) (.seq (.reg [ oU 4 (.cp (.k (.str []))),oU 5 (.cp (.k (.int .i64 17)))] [4,5]) (.ret)) (.skip))) (.seq (.reg [ oC 11 1,oU 12 (.call 69 [.v 11]),oC 10 12,oU 13 (.ext 10 0),oU 14 (.ext 10 1),oC 6 13,oC 7 14] [0,1,6,7]) (.seq (.seq (.reg [ oC 15 1,oU 16 (.ix (.v 15) (.k (.int .i64 0))),oU 17 (.ci .eql (.v 16) (.k (.int .u8 45)))] [0,6,7,17]) (.cnd (.v 17) (.reg [ oC 18 6,oU 19 (.call 106 [.v 18]),oC 20 7,oU 21 (.call 106 [.v 20]),oC 6 19,oC 7 21] [0,6,7]) (.skip))) (.seq (.reg [ oC 22 0,oC 23 7,oC 24 6,oU 25 (.call 87 [.v 23,.v 24]),oU 26 (.call 29 [.v 22,.v 25]),oC 4 26,oU 5 (.cp (.k (.int .i64 0)))] [4,5]) (.ret)))))
def rs102 : List RV := [.t 4, .t 5]
theorem chk102 : chkFn Tryz.prog Tryz.f102 2 pc102 rs102 = true := by kernel_rfl
theorem rule102 : Rl 102 2 pc102 rs102 := rlM Tryz.func102 chk102

/-- klippe/vector.numbers -/
def pc103 : PC := .seq (.reg [ oU 2 (.cp (.k (.int .i64 0)))] [0]) (.seq (.seq (.reg [ oC 6 0,oU 7 (.len (.v 6)),oU 8 (.cp (.k (.int .i64 0)))] [6,7,8]) (.blk 0 (.loop (.seq (.reg [ oU 9 (.ci .lss (.v 8) (.v 7))] [6,7,8,9]) (.seq (.cnd (.v 9) (.skip) (.exit 0)) (.seq (.blk 1 (.seq (.reg [ oU 10 (.ia 1 (.v 6) (.v 8)),oU 11 (.ld false 1 (.v 10)),oC 4 11] [4,6,7,8]) (.seq (.reg [ oC 12 4,oU 13 (.call 54 [.v 12]),oC 5 13] [5,6,7,8]) (.seq (.reg [ oC 14 5,oU 15 (.ci .neq (.v 14) (.k (.int .i64 0)))] [5,6,7,8,15]) (.cnd (.v 15) (.seq (.reg [ oC 16 5,oC 2 16] [2]) (.ret)) (.skip)))))) (.reg [ oU 17 (.ari .add .i64 (.v 8) (.k (.int .i64 1))),oC 8 17] [6,7,8]))))))) (.seq (.reg [ oU 2 (.cp (.k (.int .i64 0)))] [2]) (.ret)))
def rs103 : List RV := [.t 2]
theorem chk103 : chkFn Tryz.prog Tryz.f103 1 pc103 rs103 = true := by kernel_rfl
theorem rule103 : Rl 103 1 pc103 rs103 := rlM Tryz.func103 chk103

/-- klippe/integer.Sign -/
def pc104 : PC := .seq (.reg [ oU 2 (.cp (.k (.int .i64 0)))] [0]) (.seq (.blk 0 (.seq (.reg [ oC 4 0,oU 5 (.sc .eql (.v 4) (.k (.str [48]))),oC 3 5] [0,3]) (.cnd (.v 3) (.seq (.reg [ oU 2 (.cp (.k (.int .i64 0)))] [2]) (.ret)) (.seq (.reg [ oC 7 0,oU 8 (.call 133 [.v 7,.k (.str [45])]),oC 6 8] [6]) (.cnd (.v 6) (.seq (.reg [ oU 2 (.cp (.k (.int .i64 (-1))))] [2]) (.ret)) (.skip)))))) (.seq (.reg [ oU 2 (.cp (.k (.int .i64 1)))] [2]) (.ret)))
def rs104 : List RV := [.t 2]
theorem chk104 : chkFn Tryz.prog Tryz.f104 1 pc104 rs104 = true := by kernel_rfl
theorem rule104 : Rl 104 1 pc104 rs104 := rlM Tryz.func104 chk104

/-- strconv.Itoa -/
def pc105 : PC := .seq (.reg [ oU 2 (.cp (.k (.str [])))] [0]) (.seq (.reg [ oC 3 0,oU 4 (.call 134 [.v 3]),oC 2 4] [2]) (.ret))
def rs105 : List RV := [.t 2]
theorem chk105 : chkFn Tryz.prog Tryz.f105 1 pc105 rs105 = true := by kernel_rfl
theorem rule105 : Rl 105 1 pc105 rs105 := rlM Tryz.func105 chk105

/-- klippe/integer.Neg -/
def pc106 : PC := .seq (.reg [ oU 2 (.cp (.k (.str [])))] [0]) (.seq (.seq (.reg [ oC 3 0,oU 4 (.call 104 [.v 3])] [0,4]) (.blk 0 (.seq (.reg [ oU 6 (.ci .eql (.v 4) (.k (.int .i64 1))),oC 5 6] [0,4,5]) (.cnd (.v 5) (.seq (.reg [ oC 7 0,oU 8 (.cat (.k (.str [45])) (.v 7)),oC 2 8] [2]) (.ret)) (.seq (.reg [ oU 10 (.ci .eql (.v 4) (.k (.int .i64 (-1)))),oC 9 10] [0,9]) (.cnd (.v 9) (.seq (.reg [ oC 11 0,oU 12 (.slS (.v 11) (some (.k (.int .i64 1))) none),oC 2 12] [2]) (.ret)) (.skip))))))) (.seq (.reg [ oC 13 0,oC 2 13] [2]) (.ret)))
def rs106 : List RV := [.t 2]
theorem chk106 : chkFn Tryz.prog Tryz.f106 1 pc106 rs106 = true := by kernel_rfl
theorem rule106 : Rl 106 1 pc106 rs106 := rlM Tryz.func106 chk106

/-- klippe/integer.DivMod -/
def pc107 : PC := .seq (.reg [ oU 4 (.cp (.k (.str []))),oU 5 (.cp (.k (.str []))),oU 6 (.cp (.k (.int .i64 0)))] [0,1]) (.seq (.seq (.reg [ oC 11 1,oU 12 (.sc .eql (.v 11) (.k (.str [48])))] [0,1,12]) (.cnd (.v 12) (.seq (.reg [ oU 4 (.cp (.k (.str []))),oU 5 (.cp (.k (.str []))),oU 6 (.cp (.k (.int .i64 17)))] [4,5,6]) (.ret)) (.skip))) (.seq (.reg [ oC 13 0,oU 14 (.call 109 [.v 13]),oC 15 1,oU 16 (.call 109 [.v 15]),oU 7 (.alloc [.bool false,.sl 0 []]),oU 8 (.alloc [.bool false,.sl 0 []]),⟨none,.st 2 (.v 7) (.v 14),none⟩,⟨none,.st 2 (.v 8) (.v 16),none⟩] [7,8]) (.seq (.reg [ oU 18 (.fa 1 (.v 7)),oU 19 (.ld false 1 (.o 18 7)),oU 20 (.fa 1 (.v 8)),oU 21 (.ld false 1 (.o 20 8)),oU 22 (.call 119 [.v 19,.v 21]),oC 17 22,oU 23 (.ext 17 0),oU 24 (.ext 17 1),oC 9 23,oC 10 24] [7,8,9,10]) (.seq (.seq (.reg [ oU 25 (.fa 0 (.v 7)),oU 26 (.ld false 1 (.o 25 7)),oC 27 26,⟨some 28,.mv (.v 10),(some (27,true))⟩,⟨some 29,.len (.o 28 10),(some (27,true))⟩,⟨some 30,.ci .gtr (.v 29) (.k (.int .i64 0)),(some (27,true))⟩,oU 31 (.pick (.v 27) (.v 30) (.k (.bool false)))] [7,8,9,10,31]) (.cnd (.v 31) (.reg [ oU 32 (.sh (.v 9)),oU 33 (.bldS 170 [.int .u64 0] 1 [(0,1,.k (.int .u64 1))]),oU 34 (.call 110 [.v 32,.v 33]),oU 35 (.fa 1 (.v 8)),oU 36 (.ld false 1 (.o 35 8)),oU 37 (.sh (.v 10)),oU 38 (.call 113 [.v 36,.v 37]),oU 9 (.tk 34),oU 10 (.tk 38)] [7,8,9,10]) (.skip))) (.seq (.reg [ oU 39 (.fa 0 (.v 7)),oU 40 (.ld false 1 (.o 39 7)),oU 41 (.fa 0 (.v 8)),oU 42 (.ld false 1 (.o 41 8)),oU 43 (.eqb true (.v 40) (.v 42)),oU 44 (.sh (.v 9)),oU 45 (.bld [.bool false,.sl 0 []] [(0,1,.v 43),(1,1,.v 44)]),oU 46 (.call 111 [.v 45]),oU 47 (.sh (.v 10)),oU 48 (.bld [.bool false,.sl 0 []] [(0,1,.k (.bool false)),(1,1,.v 47)]),oU 49 (.call 111 [.v 48]),oC 4 46,oC 5 49,oU 6 (.cp (.k (.int .i64 0)))] [4,5,6]) (.ret))))))
def rs107 : List RV := [.t 4, .t 5, .t 6]
theorem chk107 : chkFn Tryz.prog Tryz.f107 2 pc107 rs107 = true := by kernel_rfl
theorem rule107 : Rl 107 2 pc107 rs107 := rlM Tryz.func107 chk107

/-- klippe/integer.quick -/
def pc108 : PC := .seq (.reg [ oU 4 (.cp (.k (.int .i64 0))),oU 5 (.cp (.k (.bool false)))] [0,1]) (.seq (.seq (.reg [ oC 8 0,oU 9 (.lenS (.v 8)),oC 10 1,oU 11 (.ci .gtr (.v 9) (.v 10))] [0,11]) (.cnd (.v 11) (.seq (.reg [ oU 4 (.cp (.k (.int .i64 0))),oU 5 (.cp (.k (.bool false)))] [4,5]) (.ret)) (.skip))) (.seq (.reg [ oC 13 0,oU 14 (.call 135 [.v 13]),oC 12 14,oU 15 (.ext 12 0),oU 16 (.ext 12 1),oC 6 15,oC 7 16] [6,7]) (.seq (.reg [ oC 17 6,oC 18 7,oU 19 (.en false (.v 18)),oC 4 17,oC 5 19] [4,5]) (.ret))))
def rs108 : List RV := [.t 4, .t 5]
theorem chk108 : chkFn Tryz.prog Tryz.f108 2 pc108 rs108 = true := by kernel_rfl
theorem rule108 : Rl 108 2 pc108 rs108 := rlM Tryz.func108 chk108

/-- klippe/integer.open -/
def pc109 : PC := .seq (.reg [ oU 2 (.alloc [.bool false,.sl 0 []])] [0,2]) (.seq (.reg [ oC 10 0,oU 11 (.call 132 [.v 10,.k (.str [45])]),oC 9 11,oU 12 (.ext 9 0),oU 13 (.ext 9 1),oC 3 12,oC 4 13] [2,3,4]) (.seq (.reg [ oC 14 3,oU 15 (.lenS (.v 14)),oU 16 (.ari .quo .i64 (.v 15) (.k (.int .i64 9))),oU 17 (.ari .add .i64 (.v 16) (.k (.int .i64 1))),oU 18 (.mkS 170 [.int .u64 0] 8 (.k (.int .i64 0)) (.v 17)),oU 5 (.tk 18)] [2,3,4,5]) (.seq (.blk 0 (.loop (.seq (.seq (.reg [ oC 19 3,oU 20 (.lenS (.v 19)),oU 21 (.ci .gtr (.v 20) (.k (.int .i64 0)))] [2,3,4,5,21]) (.cnd (.v 21) (.skip) (.exit 0))) (.blk 1 (.seq (.reg [ oC 22 3,oU 23 (.lenS (.v 22)),oU 24 (.ari .sub .i64 (.v 23) (.k (.int .i64 9))),oU 25 (.mm true [.v 24,.k (.int .i64 0)]),oC 6 25] [2,3,4,5,6]) (.seq (.reg [ oC 27 3,oC 28 6,oU 29 (.slS (.v 27) (some (.v 28)) none),oU 30 (.call 136 [.v 29,.k (.int .i64 10),.k (.int .i64 64)]),oC 26 30,oU 31 (.ext 26 0),oU 32 (.ext 26 1),oC 7 31,oC 8 32] [2,3,4,5,6,7]) (.reg [ oU 33 (.tk 5),oC 34 7,oU 35 (.bldS 170 [.int .u64 0] 1 [(0,1,.v 34)]),oU 36 (.app 170 1 8 (.v 33) (.v 35)),oC 37 3,oC 38 6,oU 39 (.slS (.v 37) none (some (.v 38))),oU 5 (.tk 36),oC 3 39] [2,3,4,5]))))))) (.seq (.reg [ oC 40 4,oU 41 (.tk 5),oU 42 (.call 137 [.v 41]),oU 43 (.bld [.bool false,.sl 0 []] [(0,1,.v 40),(1,1,.v 42)]),⟨none,.st 2 (.v 2) (.v 43),none⟩] [2]) (.ret)))))
def rs109 : List RV := [.c 2 true 2]
theorem chk109 : chkFn Tryz.prog Tryz.f109 1 pc109 rs109 = true := by kernel_rfl
theorem rule109 : Rl 109 1 pc109 rs109 := rlM Tryz.func109 chk109

/-- klippe/integer.plus -/
def pc110 : PC := .seq (.reg [ oU 4 (.nil 170)] [0,1]) (.seq (.seq (.reg [ oC 9 0,oU 10 (.len (.v 9)),oC 11 1,oU 12 (.len (.v 11)),oU 13 (.ci .lss (.v 10) (.v 12))] [0,1,13]) (.cnd (.v 13) (.reg [ oC 14 1,oC 15 0,oC 0 14,oC 1 15] [0,1]) (.skip))) (.seq (.reg [ oC 16 0,oU 17 (.len (.v 16)),oU 18 (.ari .add .i64 (.v 17) (.k (.int .i64 1))),oU 19 (.mkS 170 [.int .u64 0] 8 (.k (.int .i64 0)) (.v 18)),oU 5 (.tk 19)] [0,1,5]) (.seq (.reg [ oU 6 (.cp (.k (.int .u64 0)))] [0,1,5,6]) (.seq (.seq (.reg [ oC 20 0,oU 21 (.len (.v 20)),oU 22 (.cp (.k (.int .i64 0)))] [1,5,6,20,21,22]) (.blk 0 (.loop (.seq (.reg [ oU 23 (.ci .lss (.v 22) (.v 21))] [1,5,6,20,21,22,23]) (.seq (.cnd (.v 23) (.skip) (.exit 0)) (.seq (.blk 1 (.seq (.reg [ oC 24 22,oU 25 (.ia 1 (.v 20) (.v 22)),oU 26 (.ld false 1 (.v 25)),oC 7 24,oC 8 26] [1,5,6,7,8,20,21,22]) (.seq (.reg [ oC 27 6,oC 28 8,oU 29 (.ari .add .u64 (.v 27) (.v 28)),oC 6 29] [1,5,6,7,20,21,22]) (.seq (.seq (.reg [ oC 30 7,oC 31 1,oU 32 (.len (.v 31)),oU 33 (.ci .lss (.v 30) (.v 32))] [1,5,6,7,20,21,22,33]) (.cnd (.v 33) (.reg [ oC 34 6,oC 35 1,oC 36 7,oU 37 (.ia 1 (.v 35) (.v 36)),oU 38 (.ld false 1 (.v 37)),oU 39 (.ari .add .u64 (.v 34) (.v 38)),oC 6 39] [1,5,6,20,21,22]) (.skip))) (.seq (.reg [ oU 40 (.tk 5),oC 41 6,oU 42 (.ari .rem .u64 (.v 41) (.k (.int .u64 1000000000))),oU 43 (.bldS 170 [.int .u64 0] 1 [(0,1,.v 42)]),oU 44 (.app 170 1 8 (.v 40) (.v 43)),oU 5 (.tk 44)] [1,5,6,20,21,22]) (.reg [ oC 45 6,oU 46 (.ari .quo .u64 (.v 45) (.k (.int .u64 1000000000))),oC 6 46] [1,5,6,20,21,22])))))) (.reg [ oU 47 (.ari .add .i64 (.v 22) (.k (.int .i64 1))),oC 22 47] [1,5,6,20,21,22]))))))) (.seq (.reg [ oU 48 (.tk 5),oC 49 6,oU 50 (.bldS 170 [.int .u64 0] 1 [(0,1,.v 49)]),oU 51 (.app 170 1 8 (.v 48) (.v 50)),oU 52 (.call 137 [.v 51]),oU 4 (.tk 52)] [4]) (.ret))))))
def rs110 : List RV := [.t 4]
theorem chk110 : chkFn Tryz.prog Tryz.f110 2 pc110 rs110 = true := by kernel_rfl
theorem rule110 : Rl 110 2 pc110 rs110 := rlM Tryz.func110 chk110

/-- klippe/integer.order -/
def pc112 : PC := .seq (.reg [ oU 4 (.cp (.k (.int .i64 0)))] [0,1]) (.seq (.seq (.reg [ oC 6 0,oU 7 (.len (.v 6)),oC 8 1,oU 9 (.len (.v 8)),oU 10 (.ci .neq (.v 7) (.v 9))] [0,1,10]) (.cnd (.v 10) (.seq (.seq (.reg [ oC 11 0,oU 12 (.len (.v 11)),oC 13 1,oU 14 (.len (.v 13)),oU 15 (.ci .lss (.v 12) (.v 14))] [15]) (.cnd (.v 15) (.seq (.reg [ oU 4 (.cp (.k (.int .i64 (-1))))] [4]) (.ret)) (.skip))) (.seq (.reg [ oU 4 (.cp (.k (.int .i64 1)))] [4]) (.ret))) (.skip))) (.seq (.seq (.reg [ oC 16 0,oU 17 (.len (.v 16)),oU 18 (.ari .sub .i64 (.v 17) (.k (.int .i64 1))),oC 5 18] [0,1,5]) (.blk 0 (.loop (.seq (.seq (.reg [ oC 19 5,oU 20 (.ci .geq (.v 19) (.k (.int .i64 0)))] [0,1,5,20]) (.cnd (.v 20) (.skip) (.exit 0))) (.seq (.blk 1 (.seq (.reg [ oC 23 0,oC 24 5,oU 25 (.ia 1 (.v 23) (.v 24)),oU 26 (.ld false 1 (.v 25)),oC 27 1,oC 28 5,oU 29 (.ia 1 (.v 27) (.v 28)),oU 30 (.ld false 1 (.v 29)),oU 31 (.ci .neq (.v 26) (.v 30))] [0,1,5,31]) (.cnd (.v 31) (.seq (.seq (.reg [ oC 32 0,oC 33 5,oU 34 (.ia 1 (.v 32) (.v 33)),oU 35 (.ld false 1 (.v 34)),oC 36 1,oC 37 5,oU 38 (.ia 1 (.v 36) (.v 37)),oU 39 (.ld false 1 (.v 38)),oU 40 (.ci .lss (.v 35) (.v 39))] [40]) (.cnd (.v 40) (.seq (.reg [ oU 4 (.cp (.k (.int .i64 (-1))))] [4]) (.ret)) (.skip))) (.seq (.reg [ oU 4 (.cp (.k (.int .i64 1)))] [4]) (.ret))) (.skip)))) (.reg [ oC 21 5,oU 22 (.ari .sub .i64 (.v 21) (.k (.int .i64 1))),oC 5 22] [0,1,5])))))) (.seq (.reg [ oU 4 (.cp (.k (.int .i64 0)))] [4]) (.ret))))
def rs112 : List RV := [.t 4]
theorem chk112 : chkFn Tryz.prog Tryz.f112 2 pc112 rs112 = true := by kernel_rfl
theorem rule112 : Rl 112 2 pc112 rs112 := rlM Tryz.func112 chk112

/-- klippe/integer.minus -/
def pc113 : PC := .seq (.reg [ oU 4 (.nil 170)] [0,1]) (.seq (.reg [ oC 10 0,oU 11 (.len (.v 10)),oU 12 (.mkS 170 [.int .u64 0] 8 (.k (.int .i64 0)) (.v 11)),oU 5 (.tk 12)] [0,1,5]) (.seq (.reg [ oU 6 (.cp (.k (.int .u64 0)))] [0,1,5,6]) (.seq (.seq (.reg [ oC 13 0,oU 14 (.len (.v 13)),oU 15 (.cp (.k (.int .i64 0)))] [1,5,6,13,14,15]) (.blk 0 (.loop (.seq (.reg [ oU 16 (.ci .lss (.v 15) (.v 14))] [1,5,6,13,14,15,16]) (.seq (.cnd (.v 16) (.skip) (.exit 0)) (.seq (.blk 1 (.seq (.reg [ oC 17 15,oU 18 (.ia 1 (.v 13) (.v 15)),oU 19 (.ld false 1 (.v 18)),oC 7 17,oC 8 19] [1,5,6,7,8,13,14,15]) (.seq (.reg [ oC 20 6,oC 9 20] [1,5,7,8,9,13,14,15]) (.seq (.seq (.reg [ oC 21 7,oC 22 1,oU 23 (.len (.v 22)),oU 24 (.ci .lss (.v 21) (.v 23))] [1,5,7,8,9,13,14,15,24]) (.cnd (.v 24) (.reg [ oC 25 9,oC 26 1,oC 27 7,oU 28 (.ia 1 (.v 26) (.v 27)),oU 29 (.ld false 1 (.v 28)),oU 30 (.ari .add .u64 (.v 25) (.v 29)),oC 9 30] [1,5,8,9,13,14,15]) (.skip))) (.seq (.reg [ oU 6 (.cp (.k (.int .u64 0)))] [1,5,6,8,9,13,14,15]) (.seq (.seq (.reg [ oC 31 8,oC 32 9,oU 33 (.ci .lss (.v 31) (.v 32))] [1,5,6,8,9,13,14,15,33]) (.cnd (.v 33) (.reg [ oC 34 8,oU 35 (.ari .add .u64 (.v 34) (.k (.int .u64 1000000000))),oC 8 35,oU 6 (.cp (.k (.int .u64 1)))] [1,5,6,8,9,13,14,15]) (.skip))) (.reg [ oU 36 (.tk 5),oC 37 8,oC 38 9,oU 39 (.ari .sub .u64 (.v 37) (.v 38)),oU 40 (.bldS 170 [.int .u64 0] 1 [(0,1,.v 39)]),oU 41 (.app 170 1 8 (.v 36) (.v 40)),oU 5 (.tk 41)] [1,5,6,13,14,15]))))))) (.reg [ oU 42 (.ari .add .i64 (.v 15) (.k (.int .i64 1))),oC 15 42] [1,5,6,13,14,15]))))))) (.seq (.reg [ oU 43 (.tk 5),oU 44 (.call 137 [.v 43]),oU 4 (.tk 44)] [4]) (.ret)))))
def rs113 : List RV := [.t 4]
theorem chk113 : chkFn Tryz.prog Tryz.f113 2 pc113 rs113 = true := by kernel_rfl
theorem rule113 : Rl 113 2 pc113 rs113 := rlM Tryz.func113 chk113

/-- klippe/integer.times -/
def pc114 : PC := .seq (.reg [ oU 4 (.nil 170)] [0,1]) (.seq (.reg [ oC 12 0,oU 13 (.len (.v 12)),oC 14 1,oU 15 (.len (.v 14)),oU 16 (.ari .add .i64 (.v 13) (.v 15)),oU 17 (.ari .add .i64 (.v 16) (.k (.int .i64 1))),oU 18 (.mkS 170 [.int .u64 0] 8 (.v 17) (.v 17)),oU 5 (.tk 18)] [0,1,5]) (.seq (.seq (.reg [ oC 19 0,oU 20 (.len (.v 19)),oU 21 (.cp (.k (.int .i64 0)))] [1,5,19,20,21]) (.blk 0 (.loop (.seq (.reg [ oU 22 (.ci .lss (.v 21) (.v 20))] [1,5,19,20,21,22]) (.seq (.cnd (.v 22) (.skip) (.exit 0)) (.seq (.blk 1 (.seq (.reg [ oC 23 21,oU 24 (.ia 1 (.v 19) (.v 21)),oU 25 (.ld false 1 (.v 24)),oC 6 23,oC 7 25] [1,5,6,7,19,20,21]) (.seq (.reg [ oU 8 (.cp (.k (.int .u64 0)))] [1,5,6,7,8,19,20,21]) (.seq (.seq (.reg [ oC 26 1,oU 27 (.len (.v 26)),oU 28 (.cp (.k (.int .i64 0)))] [1,5,6,7,8,19,20,21,26,27,28]) (.blk 2 (.loop (.seq (.reg [ oU 29 (.ci .lss (.v 28) (.v 27))] [1,5,6,7,8,19,20,21,26,27,28,29]) (.seq (.cnd (.v 29) (.skip) (.exit 2)) (.seq (.blk 3 (.seq (.reg [ oC 30 28,oU 31 (.ia 1 (.v 26) (.v 28)),oU 32 (.ld false 1 (.v 31)),oC 9 30,oC 10 32] [1,5,6,7,8,9,10,19,20,21,26,27,28]) (.seq (.reg [ oC 33 8,oU 34 (.mv (.v 5)),oC 35 6,oC 36 9,oU 37 (.ari .add .i64 (.v 35) (.v 36)),oU 38 (.ia 1 (.o 34 5) (.v 37)),oU 39 (.ld false 1 (.o 38 5)),oC 40 7,oC 41 10,oU 42 (.ari .mul .u64 (.v 40) (.v 41)),oU 43 (.ari .add .u64 (.v 39) (.v 42)),oU 44 (.ari .add .u64 (.v 33) (.v 43)),oC 8 44] [1,5,6,7,8,9,19,20,21,26,27,28]) (.seq (.reg [ oU 45 (.mv (.v 5)),oC 46 6,oC 47 9,oU 48 (.ari .add .i64 (.v 46) (.v 47)),oC 49 8,oU 50 (.ari .rem .u64 (.v 49) (.k (.int .u64 1000000000))),oU 51 (.ia 1 (.o 45 5) (.v 48)),⟨none,.st 1 (.o 51 5) (.v 50),none⟩] [1,5,6,7,8,19,20,21,26,27,28]) (.reg [ oC 52 8,oU 53 (.ari .quo .u64 (.v 52) (.k (.int .u64 1000000000))),oC 8 53] [1,5,6,7,8,19,20,21,26,27,28]))))) (.reg [ oU 54 (.ari .add .i64 (.v 28) (.k (.int .i64 1))),oC 28 54] [1,5,6,7,8,19,20,21,26,27,28]))))))) (.seq (.reg [ oC 55 6,oC 56 1,oU 57 (.len (.v 56)),oU 58 (.ari .add .i64 (.v 55) (.v 57)),oC 11 58] [1,5,8,11,19,20,21]) (.blk 4 (.loop (.seq (.seq (.reg [ oC 59 8,oU 60 (.ci .gtr (.v 59) (.k (.int .u64 0)))] [1,5,8,11,19,20,21,60]) (.cnd (.v 60) (.skip) (.exit 4))) (.seq (.blk 5 (.seq (.reg [ oC 63 8,oU 64 (.mv (.v 5)),oC 65 11,oU 66 (.ia 1 (.o 64 5) (.v 65)),oU 67 (.ld false 1 (.o 66 5)),oU 68 (.ari .add .u64 (.v 63) (.v 67)),oC 8 68] [1,5,8,11,19,20,21]) (.seq (.reg [ oU 69 (.mv (.v 5)),oC 70 11,oC 71 8,oU 72 (.ari .rem .u64 (.v 71) (.k (.int .u64 1000000000))),oU 73 (.ia 1 (.o 69 5) (.v 70)),⟨none,.st 1 (.o 73 5) (.v 72),none⟩] [1,5,8,11,19,20,21]) (.reg [ oC 74 8,oU 75 (.ari .quo .u64 (.v 74) (.k (.int .u64 1000000000))),oC 8 75] [1,5,8,11,19,20,21])))) (.reg [ oC 61 11,oU 62 (.ari .add .i64 (.v 61) (.k (.int .i64 1))),oC 11 62] [1,5,8,11,19,20,21])))))))))) (.reg [ oU 76 (.ari .add .i64 (.v 21) (.k (.int .i64 1))),oC 21 76] [1,5,19,20,21]))))))) (.seq (.reg [ oU 77 (.tk 5),oU 78 (.call 137 [.v 77]),oU 4 (.tk 78)] [4]) (.ret))))
def rs114 : List RV := [.t 4]
theorem chk114 : chkFn Tryz.prog Tryz.f114 2 pc114 rs114 = true := by kernel_rfl
theorem rule114 : Rl 114 2 pc114 rs114 := rlM Tryz.func114 chk114

/-- klippe/kink.up -/
def pc116 : PC := .seq (.reg [ oU 1 (.bx 2 (.v 0)),oU 2 (.alloc [.str [],.str []])] [1,2]) (.seq (.reg [ oU 3 (.fa 1 (.v 1)),oU 4 (.ld false 1 (.o 3 1)),oU 5 (.call 64 [.v 4]),oU 6 (.fa 0 (.v 1)),oU 7 (.ld false 1 (.o 6 1)),oU 8 (.bld [.str [],.str []] [(0,1,.v 5),(1,1,.v 7)]),⟨none,.st 2 (.v 2) (.v 8),none⟩] [2]) (.ret))
def rs116 : List RV := [.c 2 true 2]
theorem chk116 : chkFn Tryz.prog Tryz.f116 1 pc116 rs116 = true := by kernel_rfl
theorem rule116 : Rl 116 1 pc116 rs116 := rlM Tryz.func116 chk116

/-- strings.TrimPrefix -/
def pc117 : PC := .seq (.reg [ oU 4 (.cp (.k (.str [])))] [0,1]) (.seq (.reg [ oC 5 0,oC 6 1,oU 7 (.call 143 [.v 5,.v 6]),oC 4 7] [4]) (.ret))
def rs117 : List RV := [.t 4]
theorem chk117 : chkFn Tryz.prog Tryz.f117 2 pc117 rs117 = true := by kernel_rfl
theorem rule117 : Rl 117 2 pc117 rs117 := rlM Tryz.func117 chk117

/-- strings.Compare -/
def pc118 : PC := .seq (.reg [ oU 4 (.cp (.k (.int .i64 0)))] [0,1]) (.seq (.reg [ oC 5 0,oC 6 1,oU 7 (.call 144 [.v 5,.v 6]),oC 4 7] [4]) (.ret))
def rs118 : List RV := [.t 4]
theorem chk118 : chkFn Tryz.prog Tryz.f118 2 pc118 rs118 = true := by kernel_rfl
theorem rule118 : Rl 118 2 pc118 rs118 := rlM Tryz.func118 chk118

/-- klippe/integer.divide -/
def pc119 : PC := .seq (.reg [ oU 3 (.bx 1 (.v 1)),oU 4 (.alG 170),oU 5 (.nil 170)] [0,3,4,5,1000004]) (.seq (.seq (.reg [ oU 14 (.mv (.v 0)),oU 15 (.ld false 1 (.v 3)),oU 16 (.call 112 [.o 14 0,.v 15]),oU 17 (.ci .lss (.v 16) (.k (.int .i64 0)))] [0,3,4,5,17,1000004]) (.cnd (.v 17) (.seq (.reg [ oU 18 (.tk 0),⟨none,.sgP 4 (.k (.sl 0 [])) [],none⟩,oU 5 (.tk 18)] [4,5,1000004]) (.ret)) (.skip))) (.seq (.seq (.reg [ oU 19 (.ld false 1 (.v 3)),oU 20 (.len (.v 19)),oU 21 (.ci .eql (.v 20) (.k (.int .i64 1)))] [0,3,4,5,21,1000004]) (.cnd (.v 21) (.seq (.reg [ oU 22 (.mv (.v 0)),oU 23 (.len (.o 22 0)),oU 24 (.mkS 170 [.int .u64 0] 8 (.v 23) (.v 23)),⟨none,.sgO 4 (.v 24) [],none⟩] [0,3,4,1000004]) (.seq (.reg [ oU 6 (.alloc [.int .u64 0]),⟨none,.st 1 (.v 6) (.k (.int .u64 0)),none⟩] [0,3,4,6,1000004]) (.seq (.seq (.reg [ oU 25 (.tk 0),oU 26 (.call 139 [.v 25])] [3,4,6,26,1000004]) (.blk 0 (.rfn 158 false 1 26 27 28 [7,8,27,28,29,30,31,32,33,34,35,36,37,38,39,40,41,42,43,44,45] (.seq (.reg [ oC 7 27] [3,4,6,7,26,28,1000004]) (.reg [ oC 8 28] [3,4,6,7,8,26,1000004])) (.blk 1 (.seq (.reg [ oU 29 (.ld false 1 (.v 6)),oU 30 (.ari .mul .u64 (.v 29) (.k (.int .u64 1000000000))),oC 31 8,oU 32 (.ari .add .u64 (.v 30) (.v 31)),⟨none,.st 1 (.v 6) (.v 32),none⟩] [3,4,6,7,26,1000004]) (.reg [ oU 33 (.lg 4),oC 34 7,oU 35 (.ld false 1 (.v 6)),oU 36 (.ld false 1 (.v 3)),oU 37 (.ia 1 (.v 36) (.k (.int .i64 0))),oU 38 (.ld false 1 (.v 37)),oU 39 (.ari .quo .u64 (.v 35) (.v 38)),oU 40 (.ld false 1 (.v 6)),oU 41 (.ld false 1 (.v 3)),oU 42 (.ia 1 (.v 41) (.k (.int .i64 0))),oU 43 (.ld false 1 (.v 42)),oU 44 (.ari .rem .u64 (.v 40) (.v 43)),oU 45 (.ia 1 (.o 33 1000004) (.v 34)),⟨none,.st 1 (.o 45 1000004) (.v 39),none⟩,⟨none,.st 1 (.v 6) (.v 44),none⟩] [3,4,6,26,1000004]))) [3,4,6,26,1000004]))) (.seq (.reg [ oU 46 (.lg 4),oU 47 (.call 137 [.o 46 1000004]),oU 48 (.ld false 1 (.v 6)),oU 49 (.bldS 170 [.int .u64 0] 1 [(0,1,.v 48)]),oU 50 (.call 137 [.v 49]),⟨none,.sgP 4 (.v 47) [46],none⟩,oU 5 (.tk 50)] [4,5,1000004]) (.ret))))) (.skip))) (.seq (.reg [ oU 51 (.ld false 1 (.v 3)),oU 52 (.ld false 1 (.v 3)),oU 53 (.len (.v 52)),oU 54 (.ari .sub .i64 (.v 53) (.k (.int .i64 1))),oU 55 (.ia 1 (.v 51) (.v 54)),oU 56 (.ld false 1 (.v 55)),oU 57 (.ari .add .u64 (.v 56) (.k (.int .u64 1))),oU 58 (.ari .quo .u64 (.k (.int .u64 1000000000)) (.v 57)),oC 9 58] [0,3,4,5,9,1000004]) (.seq (.reg [ oU 59 (.sh (.v 0)),oC 60 9,oU 61 (.call 145 [.v 59,.v 60]),oU 62 (.ld false 1 (.v 3)),oC 63 9,oU 64 (.call 145 [.v 62,.v 63]),oU 0 (.tk 61),⟨none,.st 1 (.v 3) (.v 64),none⟩] [0,3,4,5,9,1000004]) (.seq (.reg [ oU 65 (.mv (.v 0)),oU 66 (.len (.o 65 0)),oU 67 (.mkS 170 [.int .u64 0] 8 (.v 66) (.v 66)),⟨none,.sgO 4 (.v 67) [],none⟩] [0,3,4,5,9,1000004]) (.seq (.reg [ oU 68 (.ld false 1 (.v 3)),oU 69 (.ld false 1 (.v 3)),oU 70 (.len (.v 69)),oU 71 (.ari .sub .i64 (.v 70) (.k (.int .i64 1))),oU 72 (.ia 1 (.v 68) (.v 71)),oU 73 (.ld false 1 (.v 72)),oC 10 73] [0,3,4,5,9,10,1000004]) (.seq (.seq (.reg [ oU 74 (.mv (.v 0)),oU 75 (.len (.o 74 0)),oU 76 (.ari .sub .i64 (.v 75) (.k (.int .i64 1))),oC 11 76] [0,3,4,5,9,10,11,1000004]) (.blk 2 (.loop (.seq (.seq (.reg [ oC 77 11,oU 78 (.ci .geq (.v 77) (.k (.int .i64 0)))] [0,3,4,5,9,10,11,78,1000004]) (.cnd (.v 78) (.skip) (.exit 2))) (.seq (.blk 3 (.seq (.reg [ oU 81 (.mv (.v 0)),oC 82 11,oU 83 (.ia 1 (.o 81 0) (.v 82)),oU 84 (.ld false 1 (.o 83 0)),oU 85 (.bldS 170 [.int .u64 0] 1 [(0,1,.v 84)]),oU 86 (.sh (.v 5)),oU 87 (.app 170 1 8 (.v 85) (.v 86)),oU 88 (.call 137 [.v 87]),oU 5 (.tk 88)] [0,3,4,5,9,10,11,1000004]) (.seq (.seq (.reg [ oU 89 (.mv (.v 5)),oU 90 (.ld false 1 (.v 3)),oU 91 (.call 112 [.o 89 5,.v 90]),oU 92 (.ci .lss (.v 91) (.k (.int .i64 0)))] [0,3,4,5,9,10,11,92,1000004]) (.cnd (.v 92) (.exit 3) (.skip))) (.seq (.reg [ oU 93 (.mv (.v 5)),oU 94 (.mv (.v 5)),oU 95 (.len (.o 94 5)),oU 96 (.ari .sub .i64 (.v 95) (.k (.int .i64 1))),oU 97 (.ia 1 (.o 93 5) (.v 96)),oU 98 (.ld false 1 (.o 97 5)),oC 12 98] [0,3,4,5,9,10,11,12,1000004]) (.seq (.seq (.reg [ oU 99 (.mv (.v 5)),oU 100 (.len (.o 99 5)),oU 101 (.ld false 1 (.v 3)),oU 102 (.len (.v 101)),oU 103 (.ci .gtr (.v 100) (.v 102))] [0,3,4,5,9,10,11,12,103,1000004]) (.cnd (.v 103) (.reg [ oC 104 12,oU 105 (.ari .mul .u64 (.v 104) (.k (.int .u64 1000000000))),oU 106 (.mv (.v 5)),oU 107 (.mv (.v 5)),oU 108 (.len (.o 107 5)),oU 109 (.ari .sub .i64 (.v 108) (.k (.int .i64 2))),oU 110 (.ia 1 (.o 106 5) (.v 109)),oU 111 (.ld false 1 (.o 110 5)),oU 112 (.ari .add .u64 (.v 105) (.v 111)),oC 12 112] [0,3,4,5,9,10,11,12,1000004]) (.skip))) (.seq (.reg [ oC 113 12,oC 114 10,oU 115 (.ari .quo .u64 (.v 113) (.v 114)),oU 116 (.mm false [.v 115,.k (.int .u64 999999999)]),oC 12 116] [0,3,4,5,9,10,11,12,1000004]) (.seq (.reg [ oU 117 (.ld false 1 (.v 3)),oC 118 12,oU 119 (.call 145 [.v 117,.v 118]),oU 13 (.tk 119)] [0,3,4,5,9,10,11,12,13,1000004]) (.seq (.blk 4 (.loop (.seq (.seq (.reg [ oU 120 (.mv (.v 13)),oU 121 (.mv (.v 5)),oU 122 (.call 112 [.o 120 13,.o 121 5]),oU 123 (.ci .gtr (.v 122) (.k (.int .i64 0)))] [0,3,4,5,9,10,11,12,13,123,1000004]) (.cnd (.v 123) (.skip) (.exit 4))) (.blk 5 (.seq (.reg [ oU 124 (.sh (.v 13)),oU 125 (.ld false 1 (.v 3)),oU 126 (.call 113 [.v 124,.v 125]),oU 13 (.tk 126)] [0,3,4,5,9,10,11,12,13,1000004]) (.reg [ oC 127 12,oU 128 (.ari .sub .u64 (.v 127) (.k (.int .u64 1))),oC 12 128] [0,3,4,5,9,10,11,12,13,1000004])))))) (.reg [ oU 129 (.lg 4),oC 130 11,oC 131 12,oU 132 (.sh (.v 5)),oU 133 (.mv (.v 13)),oU 134 (.call 113 [.v 132,.o 133 13]),oU 135 (.ia 1 (.o 129 1000004) (.v 130)),⟨none,.st 1 (.o 135 1000004) (.v 131),none⟩,oU 5 (.tk 134)] [0,3,4,5,9,10,11,1000004]))))))))) (.reg [ oC 79 11,oU 80 (.ari .sub .i64 (.v 79) (.k (.int .i64 1))),oC 11 80] [0,3,4,5,9,10,11,1000004])))))) (.seq (.reg [ oU 137 (.sh (.v 5)),oC 138 9,oU 139 (.bldS 170 [.int .u64 0] 1 [(0,1,.v 138)]),oU 140 (.call 119 [.v 137,.v 139]),oC 136 140,oU 141 (.ext 136 0),oU 142 (.ext 136 1),oC 5 141] [4,5,1000004]) (.seq (.reg [ oU 143 (.lg 4),oU 144 (.call 137 [.o 143 1000004]),oU 145 (.sh (.v 5)),⟨none,.sgP 4 (.v 144) [143],none⟩,oU 5 (.tk 145)] [4,5,1000004]) (.ret))))))))))
def rs119 : List RV := [.c 4 false 1, .t 5]
theorem chk119 : chkFnR Tryz.prog Tryz.f119 2 pc119 rs119 = true := by kernel_rfl
theorem nc119 : pc119.noCus = true := by kernel_rfl
theorem rule119 {L : World → Prop} (hL : ∀ w w', L w → Below w.heap.size w w' → L w') (hbk : ∀ q ∈ pc119.backs, IsBack Tryz.prog q.1 q.2.1 q.2.2) {ds : List D} {r : D} (hr0 : aliasOf r = none) (hlen : ds.length = 2) (hp : ds.all (fun d => (aliasOf d).isNone) = true)
    (h : wC (Con Tryz.prog L) pc119 (retQ rs119 r) (initE 0 ds)) : Con Tryz.prog L 119 ds r :=
  con_chkR hL Tryz.func119 chk119 hbk (fun c _ q hq => by rw [cusL_nil c _ nc119] at hq; cases hq) hr0 hlen hp (wC_sound h)

/-- slices.ContainsFunc[klippe/surd.Surd,klippe/surd.Term] -/
def pc120 : PC := .seq (.reg [ oU 4 (.cp (.k (.bool false)))] [0,1]) (.seq (.reg [ oC 5 0,oC 6 1,oU 7 (.call 146 [.v 5,.v 6]),oU 8 (.ci .geq (.v 7) (.k (.int .i64 0))),oC 4 8] [4]) (.ret))
def rs120 : List RV := [.t 4]
theorem chk120 : chkFn Tryz.prog Tryz.f120 2 pc120 rs120 = true := by kernel_rfl
theorem rule120 : Rl 120 2 pc120 rs120 := rlM Tryz.func120 chk120

/-- klippe/surd.result$1 -/
def pc121 : PC := .seq (.reg [ oU 1 (.bx 2 (.v 0)),oU 2 (.cp (.k (.bool false)))] [1]) (.seq (.reg [ oU 3 (.fa 0 (.v 1)),oU 4 (.ld false 1 (.o 3 1)),oU 5 (.call 54 [.v 4]),oU 6 (.ci .neq (.v 5) (.k (.int .i64 0))),oC 7 6,⟨some 8,.fa 1 (.v 1),(some (7,false))⟩,⟨some 9,.ld false 1 (.o 8 1),(some (7,false))⟩,⟨some 10,.call 100 [.v 9],(some (7,false))⟩,⟨some 11,.ci .neq (.v 10) (.k (.int .i64 0)),(some (7,false))⟩,oU 12 (.pick (.v 7) (.k (.bool true)) (.v 11)),oC 2 12] [2]) (.ret))
def rs121 : List RV := [.t 2]
theorem chk121 : chkFn Tryz.prog Tryz.f121 1 pc121 rs121 = true := by kernel_rfl
theorem rule121 : Rl 121 1 pc121 rs121 := rlM Tryz.func121 chk121

/-- klippe/surd.sum$1 -/
def pc124 : PC := .seq (.reg [ oU 1 (.bx 2 (.v 0)),oU 2 (.cp (.k (.bool false)))] [1]) (.seq (.reg [ oU 3 (.fa 0 (.v 1)),oU 4 (.ld false 1 (.o 3 1)),oU 5 (.sc .eql (.v 4) (.k (.str [48]))),oC 2 5] [2]) (.ret))
def rs124 : List RV := [.t 2]
theorem chk124 : chkFn Tryz.prog Tryz.f124 1 pc124 rs124 = true := by kernel_rfl
theorem rule124 : Rl 124 1 pc124 rs124 := rlM Tryz.func124 chk124

/-- klippe/surd.sum$2 -/
def pc126 : PC := .seq (.reg [ oU 2 (.bx 2 (.v 0)),oU 3 (.bx 2 (.v 1)),oU 4 (.cp (.k (.int .i64 0)))] [2,3]) (.seq (.reg [ oU 5 (.fa 1 (.v 2)),oU 6 (.ld false 1 (.o 5 2)),oU 7 (.fa 1 (.v 3)),oU 8 (.ld false 1 (.o 7 3)),oU 9 (.call 84 [.v 6,.v 8]),oC 4 9] [4]) (.ret))
def rs126 : List RV := [.t 4]
theorem chk126 : chkFn Tryz.prog Tryz.f126 2 pc126 rs126 = true := by kernel_rfl
theorem rule126 : Rl 126 2 pc126 rs126 := rlM Tryz.func126 chk126

/-- klippe/surd.Check$1 -/
def pc127 : PC := .seq (.reg [ oU 2 (.bx 2 (.v 0)),oU 3 (.cp (.k (.bool false)))] [1,2]) (.seq (.reg [ oU 7 (.fa 1 (.v 2)),oU 8 (.ld false 1 (.o 7 2)),oU 9 (.fa 1 (.v 1)),oU 10 (.ld false 1 (.v 9)),oU 11 (.call 128 [.v 8,.v 10]),oC 6 11,oU 12 (.ext 6 0),oU 13 (.ext 6 1),oC 4 12,oC 5 13] [5]) (.seq (.reg [ oC 14 5,oC 3 14] [3]) (.ret)))
def rs127 : List RV := [.t 3]
theorem chk127 : chkFn Tryz.prog Tryz.f127 2 pc127 rs127 = true := by kernel_rfl
theorem rule127 : Rl 127 2 pc127 rs127 := rlM Tryz.func127 chk127

/-- klippe/surd.alike -/
def pc128 : PC := .seq (.reg [ oU 4 (.cp (.k (.str []))),oU 5 (.cp (.k (.bool false)))] [0,1]) (.seq (.seq (.reg [ oC 6 0,oC 7 1,oU 8 (.sc .eql (.v 6) (.v 7))] [0,1,8]) (.cnd (.v 8) (.seq (.reg [ oC 9 0,oC 4 9,oU 5 (.cp (.k (.bool true)))] [4,5]) (.ret)) (.skip))) (.seq (.reg [ oC 10 0,oC 11 1,oU 12 (.call 72 [.v 10,.v 11]),oU 13 (.call 88 [.v 12]),oU 14 (.ext 13 0),oU 15 (.ext 13 1),oC 4 14,oC 5 15] [4,5]) (.ret)))
def rs128 : List RV := [.t 4, .t 5]
theorem chk128 : chkFn Tryz.prog Tryz.f128 2 pc128 rs128 = true := by kernel_rfl
theorem rule128 : Rl 128 2 pc128 rs128 := rlM Tryz.func128 chk128

/-- klippe/vector.long -/
def pc129 : PC := .seq (.reg [ oU 2 (.cp (.k (.bool false)))] [0]) (.seq (.reg [ oC 6 0,oU 7 (.call 69 [.v 6]),oC 5 7,oU 8 (.ext 5 0),oU 9 (.ext 5 1),oC 3 8,oC 4 9] [3,4]) (.seq (.reg [ oC 10 3,oU 11 (.call 149 [.v 10]),oU 12 (.lenS (.v 11)),oU 13 (.ci .gtr (.v 12) (.k (.int .i64 200))),oC 14 13,⟨some 15,.cp (.v 4),(some (14,false))⟩,⟨some 16,.lenS (.v 15),(some (14,false))⟩,⟨some 17,.ci .gtr (.v 16) (.k (.int .i64 200)),(some (14,false))⟩,oU 18 (.pick (.v 14) (.k (.bool true)) (.v 17)),oC 2 18] [2]) (.ret)))
def rs129 : List RV := [.t 2]
theorem chk129 : chkFn Tryz.prog Tryz.f129 1 pc129 rs129 = true := by kernel_rfl
theorem rule129 : Rl 129 1 pc129 rs129 := rlM Tryz.func129 chk129

/-- klippe/vector.minor -/
def pc130 : PC := .seq (.reg [ oU 8 (.cp (.k (.str [])))] [0,1,2,3]) (.seq (.reg [ oC 9 0,oC 10 3,oU 11 (.call 29 [.v 9,.v 10]),oC 12 1,oC 13 2,oU 14 (.call 29 [.v 12,.v 13]),oU 15 (.call 30 [.v 11,.v 14]),oC 8 15] [8]) (.ret))
def rs130 : List RV := [.t 8]
theorem chk130 : chkFn Tryz.prog Tryz.f130 4 pc130 rs130 = true := by kernel_rfl
theorem rule130 : Rl 130 4 pc130 rs130 := rlM Tryz.func130 chk130

/-- internal/stringslite.Cut -/
def pc131 : PC := .seq (.reg [ oU 4 (.cp (.k (.str []))),oU 5 (.cp (.k (.str []))),oU 6 (.cp (.k (.bool false)))] [0,1]) (.seq (.seq (.reg [ oC 8 0,oC 9 1,oU 10 (.call 150 [.v 8,.v 9]),oC 7 10] [0,1,7]) (.seq (.reg [ oC 11 7,oU 12 (.ci .geq (.v 11) (.k (.int .i64 0)))] [0,1,7,12]) (.cnd (.v 12) (.seq (.reg [ oC 13 0,oC 14 7,oU 15 (.slS (.v 13) none (some (.v 14))),oC 16 0,oC 17 7,oC 18 1,oU 19 (.lenS (.v 18)),oU 20 (.ari .add .i64 (.v 17) (.v 19)),oU 21 (.slS (.v 16) (some (.v 20)) none),oC 4 15,oC 5 21,oU 6 (.cp (.k (.bool true)))] [4,5,6]) (.ret)) (.skip)))) (.seq (.reg [ oC 22 0,oC 4 22,oU 5 (.cp (.k (.str []))),oU 6 (.cp (.k (.bool false)))] [4,5,6]) (.ret)))
def rs131 : List RV := [.t 4, .t 5, .t 6]
theorem chk131 : chkFn Tryz.prog Tryz.f131 2 pc131 rs131 = true := by kernel_rfl
theorem rule131 : Rl 131 2 pc131 rs131 := rlM Tryz.func131 chk131

/-- strings.CutPrefix -/
def pc132 : PC := .seq (.reg [ oU 4 (.cp (.k (.str []))),oU 5 (.cp (.k (.bool false)))] [0,1]) (.seq (.reg [ oC 6 0,oC 7 1,oU 8 (.call 151 [.v 6,.v 7]),oU 9 (.ext 8 0),oU 10 (.ext 8 1),oC 4 9,oC 5 10] [4,5]) (.ret))
def rs132 : List RV := [.t 4, .t 5]
theorem chk132 : chkFn Tryz.prog Tryz.f132 2 pc132 rs132 = true := by kernel_rfl
theorem rule132 : Rl 132 2 pc132 rs132 := rlM Tryz.func132 chk132

/-- strings.HasPrefix -/
def pc133 : PC := .seq (.reg [ oU 4 (.cp (.k (.bool false)))] [0,1]) (.seq (.reg [ oC 5 0,oC 6 1,oU 7 (.call 152 [.v 5,.v 6]),oC 4 7] [4]) (.ret))
def rs133 : List RV := [.t 4]
theorem chk133 : chkFn Tryz.prog Tryz.f133 2 pc133 rs133 = true := by kernel_rfl
theorem rule133 : Rl 133 2 pc133 rs133 := rlM Tryz.func133 chk133

/-- internal/strconv.Itoa -/
def pc134 : PC := .seq (.reg [ oU 2 (.cp (.k (.str [])))] [0]) (.seq (.reg [ oC 3 0,oU 4 (.call 153 [.v 3,.k (.int .i64 10)]),oC 2 4] [2]) (.ret))
def rs134 : List RV := [.t 2]
theorem chk134 : chkFn Tryz.prog Tryz.f134 1 pc134 rs134 = true := by kernel_rfl
theorem rule134 : Rl 134 1 pc134 rs134 := rlM Tryz.func134 chk134

/-- strconv.Atoi -/
def pc135 : PC := .seq (.reg [ oU 2 (.cp (.k (.int .i64 0))),oU 3 (.cp (.k (.err true)))] [0]) (.seq (.reg [ oC 7 0,oU 8 (.call 154 [.v 7]),oC 6 8,oU 9 (.ext 6 0),oU 10 (.ext 6 1),oC 4 9,oC 5 10] [0,4,5]) (.seq (.seq (.reg [ oC 11 5,oU 12 (.en true (.v 11))] [0,4,5,12]) (.cnd (.v 12) (.seq (.reg [ oC 13 4,oC 14 0,oC 15 5,oU 16 (.call 155 [.k (.str [65,116,111,105]),.v 14,.k (.int .i64 0),.k (.int .i64 0),.v 15]),oC 2 13,oC 3 16] [2,3]) (.ret)) (.skip))) (.seq (.reg [ oC 17 4,oC 2 17,oU 3 (.cp (.k (.err true)))] [2,3]) (.ret))))
def rs135 : List RV := [.t 2, .t 3]
theorem chk135 : chkFn Tryz.prog Tryz.f135 1 pc135 rs135 = true := by kernel_rfl
theorem rule135 : Rl 135 1 pc135 rs135 := rlM Tryz.func135 chk135

/-- strconv.ParseUint -/
def pc136 : PC := .seq (.reg [ oU 6 (.cp (.k (.int .u64 0))),oU 7 (.cp (.k (.err true)))] [0,1,2]) (.seq (.reg [ oC 11 0,oC 12 1,oC 13 2,oU 14 (.call 156 [.v 11,.v 12,.v 13]),oC 10 14,oU 15 (.ext 10 0),oU 16 (.ext 10 1),oC 8 15,oC 9 16] [0,1,2,8,9]) (.seq (.seq (.reg [ oC 17 9,oU 18 (.en true (.v 17))] [0,1,2,8,9,18]) (.cnd (.v 18) (.seq (.reg [ oC 19 8,oC 20 0,oC 21 1,oC 22 2,oC 23 9,oU 24 (.call 155 [.k (.str [80,97,114,115,101,85,105,110,116]),.v 20,.v 21,.v 22,.v 23]),oC 6 19,oC 7 24] [6,7]) (.ret)) (.skip))) (.seq (.reg [ oC 25 8,oC 6 25,oU 7 (.cp (.k (.err true)))] [6,7]) (.ret))))
def rs136 : List RV := [.t 6, .t 7]
theorem chk136 : chkFn Tryz.prog Tryz.f136 3 pc136 rs136 = true := by kernel_rfl
theorem rule136 : Rl 136 3 pc136 rs136 := rlM Tryz.func136 chk136

/-- klippe/integer.trim -/
def pc137 : PC := .seq (.reg [ oU 2 (.nil 170)] [0]) (.seq (.blk 0 (.loop (.seq (.seq (.reg [ oC 3 0,oU 4 (.len (.v 3)),oU 5 (.ci .gtr (.v 4) (.k (.int .i64 0))),oC 6 5,⟨some 7,.cp (.v 0),(some (6,true))⟩,⟨some 8,.cp (.v 0),(some (6,true))⟩,⟨some 9,.len (.v 8),(some (6,true))⟩,⟨some 10,.ari .sub .i64 (.v 9) (.k (.int .i64 1)),(some (6,true))⟩,⟨some 11,.ia 1 (.v 7) (.v 10),(some (6,true))⟩,⟨some 12,.ld false 1 (.v 11),(some (6,true))⟩,⟨some 13,.ci .eql (.v 12) (.k (.int .u64 0)),(some (6,true))⟩,oU 14 (.pick (.v 6) (.v 13) (.k (.bool false)))] [0,14]) (.cnd (.v 14) (.skip) (.exit 0))) (.blk 1 (.reg [ oC 15 0,oC 16 0,oU 17 (.len (.v 16)),oU 18 (.ari .sub .i64 (.v 17) (.k (.int .i64 1))),oU 19 (.slc 1 (.v 15) none (some (.v 18))),oC 0 19] [0]))))) (.seq (.reg [ oC 20 0,oC 2 20] [2]) (.ret)))
def rs137 : List RV := [.t 2]
theorem chk137 : chkFn Tryz.prog Tryz.f137 1 pc137 rs137 = true := by kernel_rfl
theorem rule137 : Rl 137 1 pc137 rs137 := rlM Tryz.func137 chk137

/-- strconv.FormatUint -/
def pc140 : PC := .seq (.reg [ oU 4 (.cp (.k (.str [])))] [0,1]) (.seq (.reg [ oC 5 0,oC 6 1,oU 7 (.call 159 [.v 5,.v 6]),oC 4 7] [4]) (.ret))
def rs140 : List RV := [.t 4]
theorem chk140 : chkFn Tryz.prog Tryz.f140 2 pc140 rs140 = true := by kernel_rfl
theorem rule140 : Rl 140 2 pc140 rs140 := rlM Tryz.func140 chk140

/-- internal/stringslite.TrimPrefix -/
def pc143 : PC := .seq (.reg [ oU 4 (.cp (.k (.str [])))] [0,1]) (.seq (.seq (.reg [ oC 5 0,oC 6 1,oU 7 (.call 152 [.v 5,.v 6])] [0,1,7]) (.cnd (.v 7) (.seq (.reg [ oC 8 0,oC 9 1,oU 10 (.lenS (.v 9)),oU 11 (.slS (.v 8) (some (.v 10)) none),oC 4 11] [4]) (.ret)) (.skip))) (.seq (.reg [ oC 12 0,oC 4 12] [4]) (.ret)))
def rs143 : List RV := [.t 4]
theorem chk143 : chkFn Tryz.prog Tryz.f143 2 pc143 rs143 = true := by kernel_rfl
theorem rule143 : Rl 143 2 pc143 rs143 := rlM Tryz.func143 chk143

/-- klippe/integer.small -/
def pc145 : PC := .seq (.reg [ oU 4 (.nil 170)] [0,1]) (.seq (.reg [ oC 5 0,oC 6 1,oU 7 (.bldS 170 [.int .u64 0] 1 [(0,1,.v 6)]),oU 8 (.call 137 [.v 7]),oU 9 (.call 114 [.v 5,.v 8]),oU 4 (.tk 9)] [4]) (.ret))
def rs145 : List RV := [.t 4]
theorem chk145 : chkFn Tryz.prog Tryz.f145 2 pc145 rs145 = true := by kernel_rfl
theorem rule145 : Rl 145 2 pc145 rs145 := rlM Tryz.func145 chk145

/-- slices.IndexFunc[klippe/surd.Surd,klippe/surd.Term] -/
def pc146 : PC := .seq (.reg [ oU 4 (.cp (.k (.int .i64 0)))] [0,1]) (.seq (.seq (.reg [ oC 6 0,oU 7 (.len (.v 6)),oU 8 (.cp (.k (.int .i64 0)))] [0,1,7,8]) (.blk 0 (.loop (.seq (.reg [ oU 9 (.ci .lss (.v 8) (.v 7))] [0,1,7,8,9]) (.seq (.cnd (.v 9) (.skip) (.exit 0)) (.seq (.blk 1 (.seq (.reg [ oC 10 8,oC 5 10] [0,1,5,7,8]) (.seq (.reg [ oC 11 1,oC 12 0,oC 13 5,oU 14 (.ia 2 (.v 12) (.v 13)),oU 15 (.ld true 2 (.v 14)),oU 16 (.callV 11 [.v 15])] [0,1,5,7,8,16]) (.cnd (.v 16) (.seq (.reg [ oC 17 5,oC 4 17] [4]) (.ret)) (.skip))))) (.reg [ oU 18 (.ari .add .i64 (.v 8) (.k (.int .i64 1))),oC 8 18] [0,1,7,8]))))))) (.seq (.reg [ oU 4 (.cp (.k (.int .i64 (-1))))] [4]) (.ret)))
def rs146 : List RV := [.t 4]
theorem chk146 : chkFn Tryz.prog Tryz.f146 2 pc146 rs146 = true := by kernel_rfl
theorem rule146 : Rl 146 2 pc146 rs146 := rlM Tryz.func146 chk146

/-- klippe/integer.Abs -/
def pc149 : PC := .seq (.reg [ oU 2 (.cp (.k (.str [])))] [0]) (.seq (.reg [ oC 3 0,oU 4 (.call 117 [.v 3,.k (.str [45])]),oC 2 4] [2]) (.ret))
def rs149 : List RV := [.t 2]
theorem chk149 : chkFn Tryz.prog Tryz.f149 1 pc149 rs149 = true := by kernel_rfl
theorem rule149 : Rl 149 1 pc149 rs149 := rlM Tryz.func149 chk149

/-- internal/stringslite.CutPrefix -/
def pc151 : PC := .seq (.reg [ oU 4 (.cp (.k (.str []))),oU 5 (.cp (.k (.bool false)))] [0,1]) (.seq (.seq (.reg [ oC 6 0,oC 7 1,oU 8 (.call 152 [.v 6,.v 7]),oU 9 (.not (.v 8))] [0,1,9]) (.cnd (.v 9) (.seq (.reg [ oC 10 0,oC 4 10,oU 5 (.cp (.k (.bool false)))] [4,5]) (.ret)) (.skip))) (.seq (.reg [ oC 11 0,oC 12 1,oU 13 (.lenS (.v 12)),oU 14 (.slS (.v 11) (some (.v 13)) none),oC 4 14,oU 5 (.cp (.k (.bool true)))] [4,5]) (.ret)))
def rs151 : List RV := [.t 4, .t 5]
theorem chk151 : chkFn Tryz.prog Tryz.f151 2 pc151 rs151 = true := by kernel_rfl
theorem rule151 : Rl 151 2 pc151 rs151 := rlM Tryz.func151 chk151

/-- internal/stringslite.HasPrefix -/
def pc152 : PC := .seq (.reg [ oU 4 (.cp (.k (.bool false)))] [0,1]) (.seq (.reg [ oC 5 0,oU 6 (.lenS (.v 5)),oC 7 1,oU 8 (.lenS (.v 7)),oU 9 (.ci .geq (.v 6) (.v 8)),oC 10 9,⟨some 11,.cp (.v 0),(some (10,true))⟩,⟨some 12,.cp (.v 1),(some (10,true))⟩,⟨some 13,.lenS (.v 12),(some (10,true))⟩,⟨some 14,.slS (.v 11) none (some (.v 13)),(some (10,true))⟩,⟨some 15,.cp (.v 1),(some (10,true))⟩,⟨some 16,.sc .eql (.v 14) (.v 15),(some (10,true))⟩,oU 17 (.pick (.v 10) (.v 16) (.k (.bool false))),oC 4 17] [4]) (.ret))
def rs152 : List RV := [.t 4]
theorem chk152 : chkFn Tryz.prog Tryz.f152 2 pc152 rs152 = true := by kernel_rfl
theorem rule152 : Rl 152 2 pc152 rs152 := rlM Tryz.func152 chk152

/-- slices.Backward[[]uint64,uint64]$1 -/
def pc158 : PC := .seq (.reg [ oU 4 (.ld false 1 (.v 1)),oU 5 (.len (.v 4)),oU 6 (.ari .sub .i64 (.v 5) (.k (.int .i64 1))),oC 3 6] [0,1,3]) (.blk 0 (.loop (.seq (.seq (.reg [ oC 7 3,oU 8 (.ci .geq (.v 7) (.k (.int .i64 0)))] [0,1,3,8]) (.cnd (.v 8) (.skip) (.exit 0))) (.seq (.blk 1 (.seq (.reg [ oC 11 0,oC 12 3,oU 13 (.ld false 1 (.v 1)),oC 14 3,oU 15 (.ia 1 (.v 13) (.v 14)),oU 16 (.ld false 1 (.v 15)),oU 17 (.callV 11 [.v 12,.v 16]),oU 18 (.not (.v 17))] [0,1,3,18]) (.cnd (.v 18) (.ret) (.skip)))) (.reg [ oC 9 3,oU 10 (.ari .sub .i64 (.v 9) (.k (.int .i64 1))),oC 3 10] [0,1,3])))))
def rs158 : List RV := []
theorem chk158 : chkFn Tryz.prog Tryz.f158 2 pc158 rs158 = true := by kernel_rfl
theorem rule158 : Rl 158 2 pc158 rs158 := rlM Tryz.func158 chk158

def tabL : List (Nat × PC × List RV × Nat) := [(12, pc12, rs12, 2), (13, pc13, rs13, 0), (14, pc14, rs14, 1), (16, pc16, rs16, 1), (19, pc19, rs19, 1), (20, pc20, rs20, 1), (22, pc22, rs22, 2), (23, pc23, rs23, 2), (26, pc26, rs26, 3), (27, pc27, rs27, 3), (29, pc29, rs29, 2), (30, pc30, rs30, 2), (35, pc35, rs35, 1), (36, pc36, rs36, 2), (37, pc37, rs37, 2), (39, pc39, rs39, 2), (42, pc42, rs42, 1), (44, pc44, rs44, 2), (45, pc45, rs45, 3), (46, pc46, rs46, 1), (47, pc47, rs47, 2), (48, pc48, rs48, 2), (49, pc49, rs49, 1), (50, pc50, rs50, 1), (51, pc51, rs51, 1), (52, pc52, rs52, 3), (53, pc53, rs53, 0), (54, pc54, rs54, 1), (55, pc55, rs55, 1), (56, pc56, rs56, 1), (57, pc57, rs57, 2), (58, pc58, rs58, 1), (59, pc59, rs59, 1), (61, pc61, rs61, 1), (63, pc63, rs63, 2), (64, pc64, rs64, 1), (65, pc65, rs65, 2), (66, pc66, rs66, 1), (67, pc67, rs67, 1), (68, pc68, rs68, 2), (69, pc69, rs69, 1), (70, pc70, rs70, 2), (71, pc71, rs71, 2), (72, pc72, rs72, 2), (74, pc74, rs74, 2), (75, pc75, rs75, 2), (76, pc76, rs76, 2), (77, pc77, rs77, 2), (78, pc78, rs78, 2), (79, pc79, rs79, 1), (80, pc80, rs80, 2), (81, pc81, rs81, 1), (82, pc82, rs82, 1), (83, pc83, rs83, 3), (84, pc84, rs84, 2), (85, pc85, rs85, 1), (86, pc86, rs86, 1), (87, pc87, rs87, 2), (88, pc88, rs88, 1), (89, pc89, rs89, 1), (90, pc90, rs90, 2), (91, pc91, rs91, 1), (92, pc92, rs92, 1), (94, pc94, rs94, 1), (95, pc95, rs95, 1), (96, pc96, rs96, 1), (97, pc97, rs97, 1), (98, pc98, rs98, 3), (99, pc99, rs99, 2), (100, pc100, rs100, 1), (101, pc101, rs101, 2), (102, pc102, rs102, 2), (103, pc103, rs103, 1), (104, pc104, rs104, 1), (105, pc105, rs105, 1), (106, pc106, rs106, 1), (107, pc107, rs107, 2), (108, pc108, rs108, 2), (109, pc109, rs109, 1), (110, pc110, rs110, 2), (112, pc112, rs112, 2), (113, pc113, rs113, 2), (114, pc114, rs114, 2), (116, pc116, rs116, 1), (117, pc117, rs117, 2), (118, pc118, rs118, 2), (120, pc120, rs120, 2), (121, pc121, rs121, 1), (124, pc124, rs124, 1), (126, pc126, rs126, 2), (127, pc127, rs127, 2), (128, pc128, rs128, 2), (129, pc129, rs129, 1), (130, pc130, rs130, 4), (131, pc131, rs131, 2), (132, pc132, rs132, 2), (133, pc133, rs133, 2), (134, pc134, rs134, 1), (135, pc135, rs135, 1), (136, pc136, rs136, 3), (137, pc137, rs137, 1), (140, pc140, rs140, 2), (143, pc143, rs143, 2), (145, pc145, rs145, 2), (146, pc146, rs146, 2), (149, pc149, rs149, 1), (151, pc151, rs151, 2), (152, pc152, rs152, 2), (158, pc158, rs158, 2)]
def tabFn (f : Nat) : Option (PC × List RV × Nat) := (tabL.find? (fun e => e.1 == f)).map (·.2)
theorem tabL_ok : ∀ e ∈ tabL, ∃ fn, Tryz.prog.funcs[e.1]? = some fn ∧ chkFn Tryz.prog fn e.2.2.2 e.2.1 e.2.2.1 = true := by
  intro e he
  simp only [tabL, List.mem_cons, List.not_mem_nil, or_false] at he
  rcases he with rfl | rfl | rfl | rfl | rfl | rfl | rfl | rfl | rfl | rfl | rfl | rfl | rfl | rfl | rfl | rfl | rfl | rfl | rfl | rfl | rfl | rfl | rfl | rfl | rfl | rfl | rfl | rfl | rfl | rfl | rfl | rfl | rfl | rfl | rfl | rfl | rfl | rfl | rfl | rfl | rfl | rfl | rfl | rfl | rfl | rfl | rfl | rfl | rfl | rfl | rfl | rfl | rfl | rfl | rfl | rfl | rfl | rfl | rfl | rfl | rfl | rfl | rfl | rfl | rfl | rfl | rfl | rfl | rfl | rfl | rfl | rfl | rfl | rfl | rfl | rfl | rfl | rfl | rfl | rfl | rfl | rfl | rfl | rfl | rfl | rfl | rfl | rfl | rfl | rfl | rfl | rfl | rfl | rfl | rfl | rfl | rfl | rfl | rfl | rfl | rfl | rfl | rfl | rfl | rfl | rfl | rfl | rfl | rfl
  · exact ⟨_, Tryz.func12, chk12⟩
  · exact ⟨_, Tryz.func13, chk13⟩
  · exact ⟨_, Tryz.func14, chk14⟩
  · exact ⟨_, Tryz.func16, chk16⟩
  · exact ⟨_, Tryz.func19, chk19⟩
  · exact ⟨_, Tryz.func20, chk20⟩
  · exact ⟨_, Tryz.func22, chk22⟩
  · exact ⟨_, Tryz.func23, chk23⟩
  · exact ⟨_, Tryz.func26, chk26⟩
  · exact ⟨_, Tryz.func27, chk27⟩
  · exact ⟨_, Tryz.func29, chk29⟩
  · exact ⟨_, Tryz.func30, chk30⟩
  · exact ⟨_, Tryz.func35, chk35⟩
  · exact ⟨_, Tryz.func36, chk36⟩
  · exact ⟨_, Tryz.func37, chk37⟩
  · exact ⟨_, Tryz.func39, chk39⟩
  · exact ⟨_, Tryz.func42, chk42⟩
  · exact ⟨_, Tryz.func44, chk44⟩
  · exact ⟨_, Tryz.func45, chk45⟩
  · exact ⟨_, Tryz.func46, chk46⟩
  · exact ⟨_, Tryz.func47, chk47⟩
  · exact ⟨_, Tryz.func48, chk48⟩
  · exact ⟨_, Tryz.func49, chk49⟩
  · exact ⟨_, Tryz.func50, chk50⟩
  · exact ⟨_, Tryz.func51, chk51⟩
  · exact ⟨_, Tryz.func52, chk52⟩
  · exact ⟨_, Tryz.func53, chk53⟩
  · exact ⟨_, Tryz.func54, chk54⟩
  · exact ⟨_, Tryz.func55, chk55⟩
  · exact ⟨_, Tryz.func56, chk56⟩
  · exact ⟨_, Tryz.func57, chk57⟩
  · exact ⟨_, Tryz.func58, chk58⟩
  · exact ⟨_, Tryz.func59, chk59⟩
  · exact ⟨_, Tryz.func61, chk61⟩
  · exact ⟨_, Tryz.func63, chk63⟩
  · exact ⟨_, Tryz.func64, chk64⟩
  · exact ⟨_, Tryz.func65, chk65⟩
  · exact ⟨_, Tryz.func66, chk66⟩
  · exact ⟨_, Tryz.func67, chk67⟩
  · exact ⟨_, Tryz.func68, chk68⟩
  · exact ⟨_, Tryz.func69, chk69⟩
  · exact ⟨_, Tryz.func70, chk70⟩
  · exact ⟨_, Tryz.func71, chk71⟩
  · exact ⟨_, Tryz.func72, chk72⟩
  · exact ⟨_, Tryz.func74, chk74⟩
  · exact ⟨_, Tryz.func75, chk75⟩
  · exact ⟨_, Tryz.func76, chk76⟩
  · exact ⟨_, Tryz.func77, chk77⟩
  · exact ⟨_, Tryz.func78, chk78⟩
  · exact ⟨_, Tryz.func79, chk79⟩
  · exact ⟨_, Tryz.func80, chk80⟩
  · exact ⟨_, Tryz.func81, chk81⟩
  · exact ⟨_, Tryz.func82, chk82⟩
  · exact ⟨_, Tryz.func83, chk83⟩
  · exact ⟨_, Tryz.func84, chk84⟩
  · exact ⟨_, Tryz.func85, chk85⟩
  · exact ⟨_, Tryz.func86, chk86⟩
  · exact ⟨_, Tryz.func87, chk87⟩
  · exact ⟨_, Tryz.func88, chk88⟩
  · exact ⟨_, Tryz.func89, chk89⟩
  · exact ⟨_, Tryz.func90, chk90⟩
  · exact ⟨_, Tryz.func91, chk91⟩
  · exact ⟨_, Tryz.func92, chk92⟩
  · exact ⟨_, Tryz.func94, chk94⟩
  · exact ⟨_, Tryz.func95, chk95⟩
  · exact ⟨_, Tryz.func96, chk96⟩
  · exact ⟨_, Tryz.func97, chk97⟩
  · exact ⟨_, Tryz.func98, chk98⟩
  · exact ⟨_, Tryz.func99, chk99⟩
  · exact ⟨_, Tryz.func100, chk100⟩
  · exact ⟨_, Tryz.func101, chk101⟩
  · exact ⟨_, Tryz.func102, chk102⟩
  · exact ⟨_, Tryz.func103, chk103⟩
  · exact ⟨_, Tryz.func104, chk104⟩
  · exact ⟨_, Tryz.func105, chk105⟩
  · exact ⟨_, Tryz.func106, chk106⟩
  · exact ⟨_, Tryz.func107, chk107⟩
  · exact ⟨_, Tryz.func108, chk108⟩
  · exact ⟨_, Tryz.func109, chk109⟩
  · exact ⟨_, Tryz.func110, chk110⟩
  · exact ⟨_, Tryz.func112, chk112⟩
  · exact ⟨_, Tryz.func113, chk113⟩
  · exact ⟨_, Tryz.func114, chk114⟩
  · exact ⟨_, Tryz.func116, chk116⟩
  · exact ⟨_, Tryz.func117, chk117⟩
  · exact ⟨_, Tryz.func118, chk118⟩
  · exact ⟨_, Tryz.func120, chk120⟩
  · exact ⟨_, Tryz.func121, chk121⟩
  · exact ⟨_, Tryz.func124, chk124⟩
  · exact ⟨_, Tryz.func126, chk126⟩
  · exact ⟨_, Tryz.func127, chk127⟩
  · exact ⟨_, Tryz.func128, chk128⟩
  · exact ⟨_, Tryz.func129, chk129⟩
  · exact ⟨_, Tryz.func130, chk130⟩
  · exact ⟨_, Tryz.func131, chk131⟩
  · exact ⟨_, Tryz.func132, chk132⟩
  · exact ⟨_, Tryz.func133, chk133⟩
  · exact ⟨_, Tryz.func134, chk134⟩
  · exact ⟨_, Tryz.func135, chk135⟩
  · exact ⟨_, Tryz.func136, chk136⟩
  · exact ⟨_, Tryz.func137, chk137⟩
  · exact ⟨_, Tryz.func140, chk140⟩
  · exact ⟨_, Tryz.func143, chk143⟩
  · exact ⟨_, Tryz.func145, chk145⟩
  · exact ⟨_, Tryz.func146, chk146⟩
  · exact ⟨_, Tryz.func149, chk149⟩
  · exact ⟨_, Tryz.func151, chk151⟩
  · exact ⟨_, Tryz.func152, chk152⟩
  · exact ⟨_, Tryz.func158, chk158⟩
theorem tabFn_ok (f : Nat) (pc : PC) (rs : List RV) (np : Nat) (h : tabFn f = some (pc, rs, np)) : ∃ fn, Tryz.prog.funcs[f]? = some fn ∧ chkFn Tryz.prog fn np pc rs = true := by
  unfold tabFn at h
  rw [Option.map_eq_some_iff] at h
  obtain ⟨e, h1, h2⟩ := h
  have h3 := List.find?_some h1
  simp only [beq_iff_eq] at h3
  obtain ⟨fn, h4, h5⟩ := tabL_ok e (List.mem_of_find?_eq_some h1)
  rw [h2] at h5
  exact ⟨fn, by rw [← h3]; exact h4, h5⟩

end Go.Proofs
