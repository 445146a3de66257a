/- The pure readings of functions of this seat, printed by program (pcfile.py). Own work. -/
import Derived.Test.YtcadmboomebdoaaGreatDoorProg
import Derived.Test.YtcadmboomebdoaaGreatDoorRa
import Derived.Test.YtcadmboomebdoaaGreatDoorPj
import Derived.KernelRfl
namespace Go.Proofs
open Go Go.Pi Go.RowKit
set_option maxRecDepth 100000
set_option linter.unusedVariables false
set_option linter.unusedSimpArgs false
/-- klippe/polyline.meet$1 -/
def pc97 : PC := .seq (.reg [ oU 5 (.cp (.k (.str [])))] [0,1,2]) (.seq (.reg [ oC 6 0,oU 7 (.ld false 1 (.v 2)),oC 8 1,oC 9 0,oU 10 (.call 56 [.v 8,.v 9]),oU 11 (.call 55 [.v 7,.v 10]),oU 12 (.call 29 [.v 6,.v 11]),oC 5 12] [5]) (.ret))
def rs97 : List RV := [.t 5]
theorem chk97 : chkFn Tryz.prog Tryz.f97 3 pc97 rs97 = true := by kernel_rfl
theorem rule97 : Rl 97 3 pc97 rs97 := rlM Tryz.func97 chk97

/-- slices.IndexFunc[[]klippe/polyline.Crossing,klippe/polyline.Crossing] -/
def pc98 : PC := .seq (.reg [ oU 4 (.cp (.k (.int .i64 0)))] [0,1]) (.seq (.seq (.reg [ oC 6 0,oU 7 (.len (.v 6)),oU 8 (.cp (.k (.int .i64 0)))] [0,1,7,8]) (.blk 0 (.loop (.seq (.reg [ oU 9 (.ci .lss (.v 8) (.v 7))] [0,1,7,8,9]) (.seq (.cnd (.v 9) (.skip) (.exit 0)) (.seq (.blk 1 (.seq (.reg [ oC 10 8,oC 5 10] [0,1,5,7,8]) (.seq (.reg [ oC 11 1,oC 12 0,oC 13 5,oU 14 (.ia 4 (.v 12) (.v 13)),oU 15 (.ld true 4 (.v 14)),oU 16 (.callV 11 [.v 15])] [0,1,5,7,8,16]) (.cnd (.v 16) (.seq (.reg [ oC 17 5,oC 4 17] [4]) (.ret)) (.skip))))) (.reg [ oU 18 (.ari .add .i64 (.v 8) (.k (.int .i64 1))),oC 8 18] [0,1,7,8]))))))) (.seq (.reg [ oU 4 (.cp (.k (.int .i64 (-1))))] [4]) (.ret)))
def rs98 : List RV := [.t 4]
theorem chk98 : chkFn Tryz.prog Tryz.f98 2 pc98 rs98 = true := by kernel_rfl
theorem rule98 : Rl 98 2 pc98 rs98 := rlM Tryz.func98 chk98

/-- strings.Cut -/
def pc99 : PC := .seq (.reg [ oU 4 (.cp (.k (.str []))),oU 5 (.cp (.k (.str []))),oU 6 (.cp (.k (.bool false)))] [0,1]) (.seq (.reg [ oC 7 0,oC 8 1,oU 9 (.call 137 [.v 7,.v 8]),oU 10 (.ext 9 0),oU 11 (.ext 9 1),oU 12 (.ext 9 2),oC 4 10,oC 5 11,oC 6 12] [4,5,6]) (.ret))
def rs99 : List RV := [.t 4, .t 5, .t 6]
theorem chk99 : chkFn Tryz.prog Tryz.f99 2 pc99 rs99 = true := by kernel_rfl
theorem rule99 : Rl 99 2 pc99 rs99 := rlM Tryz.func99 chk99

/-- klippe/integer.Check -/
def pc100 : PC := .seq (.reg [ oU 2 (.cp (.k (.int .i64 0)))] [0]) (.seq (.reg [ oC 7 0,oU 8 (.call 138 [.v 7,.k (.str [45])]),oC 6 8,oU 9 (.ext 6 0),oU 10 (.ext 6 1),oC 3 9,oC 4 10] [3,4]) (.seq (.seq (.reg [ oC 11 3,oU 12 (.sc .eql (.v 11) (.k (.str []))),oC 13 12,⟨some 14,.cp (.v 3),(some (13,false))⟩,⟨some 15,.lenS (.v 14),(some (13,false))⟩,⟨some 16,.ci .gtr (.v 15) (.k (.int .i64 200)),(some (13,false))⟩,oU 17 (.pick (.v 13) (.k (.bool true)) (.v 16)),oC 18 17,⟨some 19,.cp (.v 3),(some (18,false))⟩,⟨some 20,.ix (.v 19) (.k (.int .i64 0)),(some (18,false))⟩,⟨some 21,.ci .eql (.v 20) (.k (.int .u8 48)),(some (18,false))⟩,⟨some 22,.cp (.v 21),(some (18,false))⟩,⟨some 23,.cp (.v 3),(some (22,true))⟩,⟨some 24,.lenS (.v 23),(some (22,true))⟩,⟨some 25,.ci .gtr (.v 24) (.k (.int .i64 1)),(some (22,true))⟩,⟨some 26,.cp (.v 25),(some (22,true))⟩,⟨some 27,.cp (.v 4),(some (26,false))⟩,⟨some 28,.pick (.v 26) (.k (.bool true)) (.v 27),(some (22,true))⟩,⟨some 29,.pick (.v 22) (.v 28) (.k (.bool false)),(some (18,false))⟩,oU 30 (.pick (.v 18) (.k (.bool true)) (.v 29))] [3,30]) (.cnd (.v 30) (.seq (.reg [ oU 2 (.cp (.k (.int .i64 2)))] [2]) (.ret)) (.skip))) (.seq (.seq (.reg [ oC 31 3,oU 32 (.lenS (.v 31)),oU 33 (.cp (.k (.int .i64 0)))] [3,32,33]) (.blk 0 (.loop (.seq (.reg [ oU 34 (.ci .lss (.v 33) (.v 32))] [3,32,33,34]) (.seq (.cnd (.v 34) (.skip) (.exit 0)) (.seq (.blk 1 (.seq (.reg [ oC 35 33,oC 5 35] [3,5,32,33]) (.seq (.reg [ oC 36 3,oC 37 5,oU 38 (.ix (.v 36) (.v 37)),oU 39 (.ci .lss (.v 38) (.k (.int .u8 48))),oC 40 39,⟨some 41,.cp (.v 3),(some (40,false))⟩,⟨some 42,.cp (.v 5),(some (40,false))⟩,⟨some 43,.ix (.v 41) (.v 42),(some (40,false))⟩,⟨some 44,.ci .gtr (.v 43) (.k (.int .u8 57)),(some (40,false))⟩,oU 45 (.pick (.v 40) (.k (.bool true)) (.v 44))] [3,32,33,45]) (.cnd (.v 45) (.seq (.reg [ oU 2 (.cp (.k (.int .i64 2)))] [2]) (.ret)) (.skip))))) (.reg [ oU 46 (.ari .add .i64 (.v 33) (.k (.int .i64 1))),oC 33 46] [3,32,33]))))))) (.seq (.reg [ oU 2 (.cp (.k (.int .i64 0)))] [2]) (.ret)))))
def rs100 : List RV := [.t 2]
theorem chk100 : chkFn Tryz.prog Tryz.f100 1 pc100 rs100 = true := by kernel_rfl
theorem rule100 : Rl 100 1 pc100 rs100 := rlM Tryz.func100 chk100

/-- klippe/integer.Gcd -/
def pc101 : PC := .seq (.reg [ oU 4 (.cp (.k (.str [])))] [0,1]) (.seq (.seq (.reg [ oC 14 0,oU 15 (.call 111 [.v 14,.k (.int .i64 18)]),oC 13 15,oU 16 (.ext 13 0),oU 17 (.ext 13 1),oC 5 16,oC 6 17] [0,1,5,6]) (.seq (.reg [ oC 18 6] [0,1,5,18]) (.cnd (.v 18) (.seq (.reg [ oC 20 1,oU 21 (.call 111 [.v 20,.k (.int .i64 18)]),oC 19 21,oU 22 (.ext 19 0),oU 23 (.ext 19 1),oC 7 22,oC 8 23] [0,1,5,7,8]) (.seq (.reg [ oC 24 8] [0,1,5,7,24]) (.cnd (.v 24) (.seq (.blk 0 (.loop (.seq (.seq (.reg [ oC 25 7,oU 26 (.ci .neq (.v 25) (.k (.int .i64 0)))] [5,7,26]) (.cnd (.v 26) (.skip) (.exit 0))) (.blk 1 (.reg [ oC 27 7,oC 28 5,oC 29 7,oU 30 (.ari .rem .i64 (.v 28) (.v 29)),oC 5 27,oC 7 30] [5,7]))))) (.seq (.reg [ oC 31 5,oC 32 5,oU 33 (.ng .i64 (.v 32)),oU 34 (.mm true [.v 31,.v 33]),oU 35 (.call 94 [.v 34]),oC 4 35] [4]) (.ret))) (.skip)))) (.skip)))) (.seq (.reg [ oC 36 0,oU 37 (.call 112 [.v 36]),oU 38 (.fld false 1 1 (.v 37)),oC 39 1,oU 40 (.call 112 [.v 39]),oU 41 (.fld false 1 1 (.v 40)),oC 9 38,oC 10 41] [9,10]) (.seq (.blk 2 (.loop (.seq (.seq (.reg [ oC 42 10,oU 43 (.len (.v 42)),oU 44 (.ci .gtr (.v 43) (.k (.int .i64 0)))] [9,10,44]) (.cnd (.v 44) (.skip) (.exit 2))) (.blk 3 (.seq (.reg [ oC 46 9,oC 47 10,oU 48 (.call 139 [.v 46,.v 47]),oC 45 48,oU 49 (.ext 45 0),oU 50 (.ext 45 1),oC 11 49,oC 12 50] [10,12]) (.reg [ oC 51 10,oC 52 12,oC 9 51,oC 10 52] [9,10])))))) (.seq (.reg [ oC 53 9,oU 54 (.bld [.bool false,.sl 0 []] [(0,1,.k (.bool false)),(1,1,.v 53)]),oU 55 (.call 114 [.v 54]),oC 4 55] [4]) (.ret)))))
def rs101 : List RV := [.t 4]
theorem chk101 : chkFn Tryz.prog Tryz.f101 2 pc101 rs101 = true := by kernel_rfl
theorem rule101 : Rl 101 2 pc101 rs101 := rlM Tryz.func101 chk101

/-- klippe/rational.Neg -/
def pc107 : PC := .seq (.reg [ oU 2 (.cp (.k (.str [])))] [0]) (.seq (.seq (.reg [ oC 3 0,oU 4 (.sc .eql (.v 3) (.k (.str [48])))] [0,4]) (.cnd (.v 4) (.seq (.reg [ oC 5 0,oC 2 5] [2]) (.ret)) (.skip))) (.seq (.seq (.reg [ oC 6 0,oU 7 (.ix (.v 6) (.k (.int .i64 0))),oU 8 (.ci .eql (.v 7) (.k (.int .u8 45)))] [0,8]) (.cnd (.v 8) (.seq (.reg [ oC 9 0,oU 10 (.slS (.v 9) (some (.k (.int .i64 1))) none),oC 2 10] [2]) (.ret)) (.skip))) (.seq (.reg [ oC 11 0,oU 12 (.cat (.k (.str [45])) (.v 11)),oC 2 12] [2]) (.ret))))
def rs107 : List RV := [.t 2]
theorem chk107 : chkFn Tryz.prog Tryz.f107 1 pc107 rs107 = true := by kernel_rfl
theorem rule107 : Rl 107 1 pc107 rs107 := rlM Tryz.func107 chk107

/-- klippe/integer.Sign -/
def pc108 : PC := .seq (.reg [ oU 2 (.cp (.k (.int .i64 0)))] [0]) (.seq (.blk 0 (.seq (.reg [ oC 4 0,oU 5 (.sc .eql (.v 4) (.k (.str [48]))),oC 3 5] [0,3]) (.cnd (.v 3) (.seq (.reg [ oU 2 (.cp (.k (.int .i64 0)))] [2]) (.ret)) (.seq (.reg [ oC 7 0,oU 8 (.call 147 [.v 7,.k (.str [45])]),oC 6 8] [6]) (.cnd (.v 6) (.seq (.reg [ oU 2 (.cp (.k (.int .i64 (-1))))] [2]) (.ret)) (.skip)))))) (.seq (.reg [ oU 2 (.cp (.k (.int .i64 1)))] [2]) (.ret)))
def rs108 : List RV := [.t 2]
theorem chk108 : chkFn Tryz.prog Tryz.f108 1 pc108 rs108 = true := by kernel_rfl
theorem rule108 : Rl 108 1 pc108 rs108 := rlM Tryz.func108 chk108

/-- strings.TrimPrefix -/
def pc109 : PC := .seq (.reg [ oU 4 (.cp (.k (.str [])))] [0,1]) (.seq (.reg [ oC 5 0,oC 6 1,oU 7 (.call 148 [.v 5,.v 6]),oC 4 7] [4]) (.ret))
def rs109 : List RV := [.t 4]
theorem chk109 : chkFn Tryz.prog Tryz.f109 2 pc109 rs109 = true := by kernel_rfl
theorem rule109 : Rl 109 2 pc109 rs109 := rlM Tryz.func109 chk109

/-- klippe/integer.quick -/
def pc111 : PC := .seq (.reg [ oU 4 (.cp (.k (.int .i64 0))),oU 5 (.cp (.k (.bool false)))] [0,1]) (.seq (.seq (.reg [ oC 8 0,oU 9 (.lenS (.v 8)),oC 10 1,oU 11 (.ci .gtr (.v 9) (.v 10))] [0,11]) (.cnd (.v 11) (.seq (.reg [ oU 4 (.cp (.k (.int .i64 0))),oU 5 (.cp (.k (.bool false)))] [4,5]) (.ret)) (.skip))) (.seq (.reg [ oC 13 0,oU 14 (.call 150 [.v 13]),oC 12 14,oU 15 (.ext 12 0),oU 16 (.ext 12 1),oC 6 15,oC 7 16] [6,7]) (.seq (.reg [ oC 17 6,oC 18 7,oU 19 (.en false (.v 18)),oC 4 17,oC 5 19] [4,5]) (.ret))))
def rs111 : List RV := [.t 4, .t 5]
theorem chk111 : chkFn Tryz.prog Tryz.f111 2 pc111 rs111 = true := by kernel_rfl
theorem rule111 : Rl 111 2 pc111 rs111 := rlM Tryz.func111 chk111

/-- klippe/integer.open -/
def pc112 : PC := .seq (.reg [ oU 2 (.alloc [.bool false,.sl 0 []])] [0,2]) (.seq (.reg [ oC 10 0,oU 11 (.call 138 [.v 10,.k (.str [45])]),oC 9 11,oU 12 (.ext 9 0),oU 13 (.ext 9 1),oC 3 12,oC 4 13] [2,3,4]) (.seq (.reg [ oC 14 3,oU 15 (.lenS (.v 14)),oU 16 (.ari .quo .i64 (.v 15) (.k (.int .i64 9))),oU 17 (.ari .add .i64 (.v 16) (.k (.int .i64 1))),oU 18 (.mkS 178 [.int .u64 0] 8 (.k (.int .i64 0)) (.v 17)),oU 5 (.tk 18)] [2,3,4,5]) (.seq (.blk 0 (.loop (.seq (.seq (.reg [ oC 19 3,oU 20 (.lenS (.v 19)),oU 21 (.ci .gtr (.v 20) (.k (.int .i64 0)))] [2,3,4,5,21]) (.cnd (.v 21) (.skip) (.exit 0))) (.blk 1 (.seq (.reg [ oC 22 3,oU 23 (.lenS (.v 22)),oU 24 (.ari .sub .i64 (.v 23) (.k (.int .i64 9))),oU 25 (.mm true [.v 24,.k (.int .i64 0)]),oC 6 25] [2,3,4,5,6]) (.seq (.reg [ oC 27 3,oC 28 6,oU 29 (.slS (.v 27) (some (.v 28)) none),oU 30 (.call 151 [.v 29,.k (.int .i64 10),.k (.int .i64 64)]),oC 26 30,oU 31 (.ext 26 0),oU 32 (.ext 26 1),oC 7 31,oC 8 32] [2,3,4,5,6,7]) (.reg [ oU 33 (.tk 5),oC 34 7,oU 35 (.bldS 178 [.int .u64 0] 1 [(0,1,.v 34)]),oU 36 (.app 178 1 8 (.v 33) (.v 35)),oC 37 3,oC 38 6,oU 39 (.slS (.v 37) none (some (.v 38))),oU 5 (.tk 36),oC 3 39] [2,3,4,5]))))))) (.seq (.reg [ oC 40 4,oU 41 (.tk 5),oU 42 (.call 152 [.v 41]),oU 43 (.bld [.bool false,.sl 0 []] [(0,1,.v 40),(1,1,.v 42)]),⟨none,.st 2 (.v 2) (.v 43),none⟩] [2]) (.ret)))))
def rs112 : List RV := [.c 2 true 2]
theorem chk112 : chkFn Tryz.prog Tryz.f112 1 pc112 rs112 = true := by kernel_rfl
theorem rule112 : Rl 112 1 pc112 rs112 := rlM Tryz.func112 chk112

/-- klippe/integer.times -/
def pc113 : PC := .seq (.reg [ oU 4 (.nil 178)] [0,1]) (.seq (.reg [ oC 12 0,oU 13 (.len (.v 12)),oC 14 1,oU 15 (.len (.v 14)),oU 16 (.ari .add .i64 (.v 13) (.v 15)),oU 17 (.ari .add .i64 (.v 16) (.k (.int .i64 1))),oU 18 (.mkS 178 [.int .u64 0] 8 (.v 17) (.v 17)),oU 5 (.tk 18)] [0,1,5]) (.seq (.seq (.reg [ oC 19 0,oU 20 (.len (.v 19)),oU 21 (.cp (.k (.int .i64 0)))] [1,5,19,20,21]) (.blk 0 (.loop (.seq (.reg [ oU 22 (.ci .lss (.v 21) (.v 20))] [1,5,19,20,21,22]) (.seq (.cnd (.v 22) (.skip) (.exit 0)) (.seq (.blk 1 (.seq (.reg [ oC 23 21,oU 24 (.ia 1 (.v 19) (.v 21)),oU 25 (.ld false 1 (.v 24)),oC 6 23,oC 7 25] [1,5,6,7,19,20,21]) (.seq (.reg [ oU 8 (.cp (.k (.int .u64 0)))] [1,5,6,7,8,19,20,21]) (.seq (.seq (.reg [ oC 26 1,oU 27 (.len (.v 26)),oU 28 (.cp (.k (.int .i64 0)))] [1,5,6,7,8,19,20,21,26,27,28]) (.blk 2 (.loop (.seq (.reg [ oU 29 (.ci .lss (.v 28) (.v 27))] [1,5,6,7,8,19,20,21,26,27,28,29]) (.seq (.cnd (.v 29) (.skip) (.exit 2)) (.seq (.blk 3 (.seq (.reg [ oC 30 28,oU 31 (.ia 1 (.v 26) (.v 28)),oU 32 (.ld false 1 (.v 31)),oC 9 30,oC 10 32] [1,5,6,7,8,9,10,19,20,21,26,27,28]) (.seq (.reg [ oC 33 8,oU 34 (.mv (.v 5)),oC 35 6,oC 36 9,oU 37 (.ari .add .i64 (.v 35) (.v 36)),oU 38 (.ia 1 (.o 34 5) (.v 37)),oU 39 (.ld false 1 (.o 38 5)),oC 40 7,oC 41 10,oU 42 (.ari .mul .u64 (.v 40) (.v 41)),oU 43 (.ari .add .u64 (.v 39) (.v 42)),oU 44 (.ari .add .u64 (.v 33) (.v 43)),oC 8 44] [1,5,6,7,8,9,19,20,21,26,27,28]) (.seq (.reg [ oU 45 (.mv (.v 5)),oC 46 6,oC 47 9,oU 48 (.ari .add .i64 (.v 46) (.v 47)),oC 49 8,oU 50 (.ari .rem .u64 (.v 49) (.k (.int .u64 1000000000))),oU 51 (.ia 1 (.o 45 5) (.v 48)),⟨none,.st 1 (.o 51 5) (.v 50),none⟩] [1,5,6,7,8,19,20,21,26,27,28]) (.reg [ oC 52 8,oU 53 (.ari .quo .u64 (.v 52) (.k (.int .u64 1000000000))),oC 8 53] [1,5,6,7,8,19,20,21,26,27,28]))))) (.reg [ oU 54 (.ari .add .i64 (.v 28) (.k (.int .i64 1))),oC 28 54] [1,5,6,7,8,19,20,21,26,27,28]))))))) (.seq (.reg [ oC 55 6,oC 56 1,oU 57 (.len (.v 56)),oU 58 (.ari .add .i64 (.v 55) (.v 57)),oC 11 58] [1,5,8,11,19,20,21]) (.blk 4 (.loop (.seq (.seq (.reg [ oC 59 8,oU 60 (.ci .gtr (.v 59) (.k (.int .u64 0)))] [1,5,8,11,19,20,21,60]) (.cnd (.v 60) (.skip) (.exit 4))) (.seq (.blk 5 (.seq (.reg [ oC 63 8,oU 64 (.mv (.v 5)),oC 65 11,oU 66 (.ia 1 (.o 64 5) (.v 65)),oU 67 (.ld false 1 (.o 66 5)),oU 68 (.ari .add .u64 (.v 63) (.v 67)),oC 8 68] [1,5,8,11,19,20,21]) (.seq (.reg [ oU 69 (.mv (.v 5)),oC 70 11,oC 71 8,oU 72 (.ari .rem .u64 (.v 71) (.k (.int .u64 1000000000))),oU 73 (.ia 1 (.o 69 5) (.v 70)),⟨none,.st 1 (.o 73 5) (.v 72),none⟩] [1,5,8,11,19,20,21]) (.reg [ oC 74 8,oU 75 (.ari .quo .u64 (.v 74) (.k (.int .u64 1000000000))),oC 8 75] [1,5,8,11,19,20,21])))) (.reg [ oC 61 11,oU 62 (.ari .add .i64 (.v 61) (.k (.int .i64 1))),oC 11 62] [1,5,8,11,19,20,21])))))))))) (.reg [ oU 76 (.ari .add .i64 (.v 21) (.k (.int .i64 1))),oC 21 76] [1,5,19,20,21]))))))) (.seq (.reg [ oU 77 (.tk 5),oU 78 (.call 152 [.v 77]),oU 4 (.tk 78)] [4]) (.ret))))
def rs113 : List RV := [.t 4]
theorem chk113 : chkFn Tryz.prog Tryz.f113 2 pc113 rs113 = true := by kernel_rfl
theorem rule113 : Rl 113 2 pc113 rs113 := rlM Tryz.func113 chk113

/-- klippe/polyline.within -/
def pc115 : PC := .seq (.reg [ oU 3 (.bx 2 (.v 0)),oU 4 (.bx 2 (.v 1)),oU 5 (.bx 2 (.v 2)),oU 6 (.cp (.k (.bool false)))] [3,4,5]) (.seq (.seq (.reg [ oU 7 (.ld true 2 (.v 3)),oU 8 (.ld true 2 (.v 4)),oU 9 (.call 70 [.v 7,.v 8]),oU 10 (.ci .gtr (.v 9) (.k (.int .i64 0)))] [3,4,5,10]) (.cnd (.v 10) (.reg [ oU 11 (.ld true 2 (.v 4)),oU 12 (.ld true 2 (.v 3)),⟨none,.st 2 (.v 3) (.v 11),none⟩,⟨none,.st 2 (.v 4) (.v 12),none⟩] [3,4,5]) (.skip))) (.seq (.reg [ oU 13 (.ld true 2 (.v 3)),oU 14 (.ld true 2 (.v 5)),oU 15 (.call 70 [.v 13,.v 14]),oU 16 (.ci .leq (.v 15) (.k (.int .i64 0))),oC 17 16,⟨some 18,.ld true 2 (.v 5),(some (17,true))⟩,⟨some 19,.ld true 2 (.v 4),(some (17,true))⟩,⟨some 20,.call 70 [.v 18,.v 19],(some (17,true))⟩,⟨some 21,.ci .leq (.v 20) (.k (.int .i64 0)),(some (17,true))⟩,oU 22 (.pick (.v 17) (.v 21) (.k (.bool false))),oC 6 22] [6]) (.ret)))
def rs115 : List RV := [.t 6]
theorem chk115 : chkFn Tryz.prog Tryz.f115 3 pc115 rs115 = true := by kernel_rfl
theorem rule115 : Rl 115 3 pc115 rs115 := rlM Tryz.func115 chk115

/-- klippe/integer.Neg -/
def pc117 : PC := .seq (.reg [ oU 2 (.cp (.k (.str [])))] [0]) (.seq (.seq (.reg [ oC 3 0,oU 4 (.call 108 [.v 3])] [0,4]) (.blk 0 (.seq (.reg [ oU 6 (.ci .eql (.v 4) (.k (.int .i64 1))),oC 5 6] [0,4,5]) (.cnd (.v 5) (.seq (.reg [ oC 7 0,oU 8 (.cat (.k (.str [45])) (.v 7)),oC 2 8] [2]) (.ret)) (.seq (.reg [ oU 10 (.ci .eql (.v 4) (.k (.int .i64 (-1)))),oC 9 10] [0,9]) (.cnd (.v 9) (.seq (.reg [ oC 11 0,oU 12 (.slS (.v 11) (some (.k (.int .i64 1))) none),oC 2 12] [2]) (.ret)) (.skip))))))) (.seq (.reg [ oC 13 0,oC 2 13] [2]) (.ret)))
def rs117 : List RV := [.t 2]
theorem chk117 : chkFn Tryz.prog Tryz.f117 1 pc117 rs117 = true := by kernel_rfl
theorem rule117 : Rl 117 1 pc117 rs117 := rlM Tryz.func117 chk117

/-- klippe/integer.DivMod -/
def pc118 : PC := .seq (.reg [ oU 4 (.cp (.k (.str []))),oU 5 (.cp (.k (.str []))),oU 6 (.cp (.k (.int .i64 0)))] [0,1]) (.seq (.seq (.reg [ oC 11 1,oU 12 (.sc .eql (.v 11) (.k (.str [48])))] [0,1,12]) (.cnd (.v 12) (.seq (.reg [ oU 4 (.cp (.k (.str []))),oU 5 (.cp (.k (.str []))),oU 6 (.cp (.k (.int .i64 17)))] [4,5,6]) (.ret)) (.skip))) (.seq (.reg [ oC 13 0,oU 14 (.call 112 [.v 13]),oC 15 1,oU 16 (.call 112 [.v 15]),oU 7 (.alloc [.bool false,.sl 0 []]),oU 8 (.alloc [.bool false,.sl 0 []]),⟨none,.st 2 (.v 7) (.v 14),none⟩,⟨none,.st 2 (.v 8) (.v 16),none⟩] [7,8]) (.seq (.reg [ oU 18 (.fa 1 (.v 7)),oU 19 (.ld false 1 (.o 18 7)),oU 20 (.fa 1 (.v 8)),oU 21 (.ld false 1 (.o 20 8)),oU 22 (.call 139 [.v 19,.v 21]),oC 17 22,oU 23 (.ext 17 0),oU 24 (.ext 17 1),oC 9 23,oC 10 24] [7,8,9,10]) (.seq (.seq (.reg [ oU 25 (.fa 0 (.v 7)),oU 26 (.ld false 1 (.o 25 7)),oC 27 26,⟨some 28,.mv (.v 10),(some (27,true))⟩,⟨some 29,.len (.o 28 10),(some (27,true))⟩,⟨some 30,.ci .gtr (.v 29) (.k (.int .i64 0)),(some (27,true))⟩,oU 31 (.pick (.v 27) (.v 30) (.k (.bool false)))] [7,8,9,10,31]) (.cnd (.v 31) (.reg [ oU 32 (.sh (.v 9)),oU 33 (.bldS 178 [.int .u64 0] 1 [(0,1,.k (.int .u64 1))]),oU 34 (.call 120 [.v 32,.v 33]),oU 35 (.fa 1 (.v 8)),oU 36 (.ld false 1 (.o 35 8)),oU 37 (.sh (.v 10)),oU 38 (.call 122 [.v 36,.v 37]),oU 9 (.tk 34),oU 10 (.tk 38)] [7,8,9,10]) (.skip))) (.seq (.reg [ oU 39 (.fa 0 (.v 7)),oU 40 (.ld false 1 (.o 39 7)),oU 41 (.fa 0 (.v 8)),oU 42 (.ld false 1 (.o 41 8)),oU 43 (.eqb true (.v 40) (.v 42)),oU 44 (.sh (.v 9)),oU 45 (.bld [.bool false,.sl 0 []] [(0,1,.v 43),(1,1,.v 44)]),oU 46 (.call 114 [.v 45]),oU 47 (.sh (.v 10)),oU 48 (.bld [.bool false,.sl 0 []] [(0,1,.k (.bool false)),(1,1,.v 47)]),oU 49 (.call 114 [.v 48]),oC 4 46,oC 5 49,oU 6 (.cp (.k (.int .i64 0)))] [4,5,6]) (.ret))))))
def rs118 : List RV := [.t 4, .t 5, .t 6]
theorem chk118 : chkFn Tryz.prog Tryz.f118 2 pc118 rs118 = true := by kernel_rfl
theorem rule118 : Rl 118 2 pc118 rs118 := rlM Tryz.func118 chk118

/-- klippe/rational.join -/
def pc119 : PC := .seq (.reg [ oU 4 (.cp (.k (.str [])))] [0,1]) (.seq (.seq (.reg [ oC 5 1,oU 6 (.sc .eql (.v 5) (.k (.str [49])))] [0,1,6]) (.cnd (.v 6) (.seq (.reg [ oC 7 0,oC 4 7] [4]) (.ret)) (.skip))) (.seq (.reg [ oC 8 0,oU 9 (.cat (.v 8) (.k (.str [47]))),oC 10 1,oU 11 (.cat (.v 9) (.v 10)),oC 4 11] [4]) (.ret)))
def rs119 : List RV := [.t 4]
theorem chk119 : chkFn Tryz.prog Tryz.f119 2 pc119 rs119 = true := by kernel_rfl
theorem rule119 : Rl 119 2 pc119 rs119 := rlM Tryz.func119 chk119

/-- klippe/integer.plus -/
def pc120 : PC := .seq (.reg [ oU 4 (.nil 178)] [0,1]) (.seq (.seq (.reg [ oC 9 0,oU 10 (.len (.v 9)),oC 11 1,oU 12 (.len (.v 11)),oU 13 (.ci .lss (.v 10) (.v 12))] [0,1,13]) (.cnd (.v 13) (.reg [ oC 14 1,oC 15 0,oC 0 14,oC 1 15] [0,1]) (.skip))) (.seq (.reg [ oC 16 0,oU 17 (.len (.v 16)),oU 18 (.ari .add .i64 (.v 17) (.k (.int .i64 1))),oU 19 (.mkS 178 [.int .u64 0] 8 (.k (.int .i64 0)) (.v 18)),oU 5 (.tk 19)] [0,1,5]) (.seq (.reg [ oU 6 (.cp (.k (.int .u64 0)))] [0,1,5,6]) (.seq (.seq (.reg [ oC 20 0,oU 21 (.len (.v 20)),oU 22 (.cp (.k (.int .i64 0)))] [1,5,6,20,21,22]) (.blk 0 (.loop (.seq (.reg [ oU 23 (.ci .lss (.v 22) (.v 21))] [1,5,6,20,21,22,23]) (.seq (.cnd (.v 23) (.skip) (.exit 0)) (.seq (.blk 1 (.seq (.reg [ oC 24 22,oU 25 (.ia 1 (.v 20) (.v 22)),oU 26 (.ld false 1 (.v 25)),oC 7 24,oC 8 26] [1,5,6,7,8,20,21,22]) (.seq (.reg [ oC 27 6,oC 28 8,oU 29 (.ari .add .u64 (.v 27) (.v 28)),oC 6 29] [1,5,6,7,20,21,22]) (.seq (.seq (.reg [ oC 30 7,oC 31 1,oU 32 (.len (.v 31)),oU 33 (.ci .lss (.v 30) (.v 32))] [1,5,6,7,20,21,22,33]) (.cnd (.v 33) (.reg [ oC 34 6,oC 35 1,oC 36 7,oU 37 (.ia 1 (.v 35) (.v 36)),oU 38 (.ld false 1 (.v 37)),oU 39 (.ari .add .u64 (.v 34) (.v 38)),oC 6 39] [1,5,6,20,21,22]) (.skip))) (.seq (.reg [ oU 40 (.tk 5),oC 41 6,oU 42 (.ari .rem .u64 (.v 41) (.k (.int .u64 1000000000))),oU 43 (.bldS 178 [.int .u64 0] 1 [(0,1,.v 42)]),oU 44 (.app 178 1 8 (.v 40) (.v 43)),oU 5 (.tk 44)] [1,5,6,20,21,22]) (.reg [ oC 45 6,oU 46 (.ari .quo .u64 (.v 45) (.k (.int .u64 1000000000))),oC 6 46] [1,5,6,20,21,22])))))) (.reg [ oU 47 (.ari .add .i64 (.v 22) (.k (.int .i64 1))),oC 22 47] [1,5,6,20,21,22]))))))) (.seq (.reg [ oU 48 (.tk 5),oC 49 6,oU 50 (.bldS 178 [.int .u64 0] 1 [(0,1,.v 49)]),oU 51 (.app 178 1 8 (.v 48) (.v 50)),oU 52 (.call 152 [.v 51]),oU 4 (.tk 52)] [4]) (.ret))))))
def rs120 : List RV := [.t 4]
theorem chk120 : chkFn Tryz.prog Tryz.f120 2 pc120 rs120 = true := by kernel_rfl
theorem rule120 : Rl 120 2 pc120 rs120 := rlM Tryz.func120 chk120

/-- klippe/integer.order -/
def pc121 : PC := .seq (.reg [ oU 4 (.cp (.k (.int .i64 0)))] [0,1]) (.seq (.seq (.reg [ oC 6 0,oU 7 (.len (.v 6)),oC 8 1,oU 9 (.len (.v 8)),oU 10 (.ci .neq (.v 7) (.v 9))] [0,1,10]) (.cnd (.v 10) (.seq (.seq (.reg [ oC 11 0,oU 12 (.len (.v 11)),oC 13 1,oU 14 (.len (.v 13)),oU 15 (.ci .lss (.v 12) (.v 14))] [15]) (.cnd (.v 15) (.seq (.reg [ oU 4 (.cp (.k (.int .i64 (-1))))] [4]) (.ret)) (.skip))) (.seq (.reg [ oU 4 (.cp (.k (.int .i64 1)))] [4]) (.ret))) (.skip))) (.seq (.seq (.reg [ oC 16 0,oU 17 (.len (.v 16)),oU 18 (.ari .sub .i64 (.v 17) (.k (.int .i64 1))),oC 5 18] [0,1,5]) (.blk 0 (.loop (.seq (.seq (.reg [ oC 19 5,oU 20 (.ci .geq (.v 19) (.k (.int .i64 0)))] [0,1,5,20]) (.cnd (.v 20) (.skip) (.exit 0))) (.seq (.blk 1 (.seq (.reg [ oC 23 0,oC 24 5,oU 25 (.ia 1 (.v 23) (.v 24)),oU 26 (.ld false 1 (.v 25)),oC 27 1,oC 28 5,oU 29 (.ia 1 (.v 27) (.v 28)),oU 30 (.ld false 1 (.v 29)),oU 31 (.ci .neq (.v 26) (.v 30))] [0,1,5,31]) (.cnd (.v 31) (.seq (.seq (.reg [ oC 32 0,oC 33 5,oU 34 (.ia 1 (.v 32) (.v 33)),oU 35 (.ld false 1 (.v 34)),oC 36 1,oC 37 5,oU 38 (.ia 1 (.v 36) (.v 37)),oU 39 (.ld false 1 (.v 38)),oU 40 (.ci .lss (.v 35) (.v 39))] [40]) (.cnd (.v 40) (.seq (.reg [ oU 4 (.cp (.k (.int .i64 (-1))))] [4]) (.ret)) (.skip))) (.seq (.reg [ oU 4 (.cp (.k (.int .i64 1)))] [4]) (.ret))) (.skip)))) (.reg [ oC 21 5,oU 22 (.ari .sub .i64 (.v 21) (.k (.int .i64 1))),oC 5 22] [0,1,5])))))) (.seq (.reg [ oU 4 (.cp (.k (.int .i64 0)))] [4]) (.ret))))
def rs121 : List RV := [.t 4]
theorem chk121 : chkFn Tryz.prog Tryz.f121 2 pc121 rs121 = true := by kernel_rfl
theorem rule121 : Rl 121 2 pc121 rs121 := rlM Tryz.func121 chk121

/-- klippe/integer.minus -/
def pc122 : PC := .seq (.reg [ oU 4 (.nil 178)] [0,1]) (.seq (.reg [ oC 10 0,oU 11 (.len (.v 10)),oU 12 (.mkS 178 [.int .u64 0] 8 (.k (.int .i64 0)) (.v 11)),oU 5 (.tk 12)] [0,1,5]) (.seq (.reg [ oU 6 (.cp (.k (.int .u64 0)))] [0,1,5,6]) (.seq (.seq (.reg [ oC 13 0,oU 14 (.len (.v 13)),oU 15 (.cp (.k (.int .i64 0)))] [1,5,6,13,14,15]) (.blk 0 (.loop (.seq (.reg [ oU 16 (.ci .lss (.v 15) (.v 14))] [1,5,6,13,14,15,16]) (.seq (.cnd (.v 16) (.skip) (.exit 0)) (.seq (.blk 1 (.seq (.reg [ oC 17 15,oU 18 (.ia 1 (.v 13) (.v 15)),oU 19 (.ld false 1 (.v 18)),oC 7 17,oC 8 19] [1,5,6,7,8,13,14,15]) (.seq (.reg [ oC 20 6,oC 9 20] [1,5,7,8,9,13,14,15]) (.seq (.seq (.reg [ oC 21 7,oC 22 1,oU 23 (.len (.v 22)),oU 24 (.ci .lss (.v 21) (.v 23))] [1,5,7,8,9,13,14,15,24]) (.cnd (.v 24) (.reg [ oC 25 9,oC 26 1,oC 27 7,oU 28 (.ia 1 (.v 26) (.v 27)),oU 29 (.ld false 1 (.v 28)),oU 30 (.ari .add .u64 (.v 25) (.v 29)),oC 9 30] [1,5,8,9,13,14,15]) (.skip))) (.seq (.reg [ oU 6 (.cp (.k (.int .u64 0)))] [1,5,6,8,9,13,14,15]) (.seq (.seq (.reg [ oC 31 8,oC 32 9,oU 33 (.ci .lss (.v 31) (.v 32))] [1,5,6,8,9,13,14,15,33]) (.cnd (.v 33) (.reg [ oC 34 8,oU 35 (.ari .add .u64 (.v 34) (.k (.int .u64 1000000000))),oC 8 35,oU 6 (.cp (.k (.int .u64 1)))] [1,5,6,8,9,13,14,15]) (.skip))) (.reg [ oU 36 (.tk 5),oC 37 8,oC 38 9,oU 39 (.ari .sub .u64 (.v 37) (.v 38)),oU 40 (.bldS 178 [.int .u64 0] 1 [(0,1,.v 39)]),oU 41 (.app 178 1 8 (.v 36) (.v 40)),oU 5 (.tk 41)] [1,5,6,13,14,15]))))))) (.reg [ oU 42 (.ari .add .i64 (.v 15) (.k (.int .i64 1))),oC 15 42] [1,5,6,13,14,15]))))))) (.seq (.reg [ oU 43 (.tk 5),oU 44 (.call 152 [.v 43]),oU 4 (.tk 44)] [4]) (.ret)))))
def rs122 : List RV := [.t 4]
theorem chk122 : chkFn Tryz.prog Tryz.f122 2 pc122 rs122 = true := by kernel_rfl
theorem rule122 : Rl 122 2 pc122 rs122 := rlM Tryz.func122 chk122

/-- klippe/surd.root -/
def pc126 : PC := .seq (.reg [ oU 2 (.cp (.k (.str []))),oU 3 (.cp (.k (.bool false)))] [0]) (.seq (.reg [ oC 7 0,oU 8 (.call 169 [.v 7]),oC 6 8,oU 9 (.ext 6 0),oU 10 (.ext 6 1),oC 4 9,oC 5 10] [0,4]) (.seq (.reg [ oC 11 4,oC 12 4,oC 13 4,oU 14 (.call 60 [.v 12,.v 13]),oC 15 0,oU 16 (.sc .eql (.v 14) (.v 15)),oC 2 11,oC 3 16] [2,3]) (.ret)))
def rs126 : List RV := [.t 2, .t 3]
theorem chk126 : chkFn Tryz.prog Tryz.f126 1 pc126 rs126 = true := by kernel_rfl
theorem rule126 : Rl 126 1 pc126 rs126 := rlM Tryz.func126 chk126

/-- klippe/surd.From -/
def pc127 : PC := .seq (.reg [ oU 2 (.nil 108),oU 3 (.cp (.k (.int .i64 0)))] [0]) (.seq (.blk 0 (.seq (.reg [ oC 5 0,oU 6 (.call 50 [.v 5]),oU 7 (.ci .neq (.v 6) (.k (.int .i64 0))),oC 4 7] [0,4]) (.cnd (.v 4) (.seq (.reg [ oU 2 (.nil 108),oU 3 (.cp (.k (.int .i64 2)))] [2,3]) (.ret)) (.seq (.reg [ oC 9 0,oU 10 (.sc .eql (.v 9) (.k (.str [48]))),oC 8 10] [0,8]) (.cnd (.v 8) (.seq (.reg [ oU 2 (.nil 108),oU 3 (.cp (.k (.int .i64 0)))] [2,3]) (.ret)) (.skip)))))) (.seq (.reg [ oC 11 0,oU 12 (.bld [.str [],.str []] [(0,1,.v 11),(1,1,.k (.str [49]))]),oU 13 (.bldS 108 [.str [],.str []] 1 [(0,2,.v 12)]),oU 2 (.tk 13),oU 3 (.cp (.k (.int .i64 0)))] [2,3]) (.ret)))
def rs127 : List RV := [.t 2, .t 3]
theorem chk127 : chkFn Tryz.prog Tryz.f127 1 pc127 rs127 = true := by kernel_rfl
theorem rule127 : Rl 127 1 pc127 rs127 := rlM Tryz.func127 chk127

/-- klippe/surd.over -/
def pc128 : PC := .seq (.reg [ oU 4 (.cp (.k (.str [])))] [0,1]) (.seq (.reg [ oC 8 0,oC 9 1,oU 10 (.call 93 [.v 8,.v 9]),oC 7 10,oU 11 (.ext 7 0),oU 12 (.ext 7 1),oC 5 11,oC 6 12] [5]) (.seq (.reg [ oC 13 5,oC 4 13] [4]) (.ret)))
def rs128 : List RV := [.t 4]
theorem chk128 : chkFn Tryz.prog Tryz.f128 2 pc128 rs128 = true := by kernel_rfl
theorem rule128 : Rl 128 2 pc128 rs128 := rlM Tryz.func128 chk128

/-- klippe/surd.result -/
def pc129 : PC := .seq (.reg [ oU 2 (.nil 108),oU 3 (.cp (.k (.int .i64 0)))] [0]) (.seq (.seq (.reg [ oC 4 0,oU 5 (.len (.v 4)),oU 6 (.ci .gtr (.v 5) (.k (.int .i64 40))),oC 7 6,⟨some 8,.cp (.v 0),(some (7,false))⟩,⟨some 9,.call 170 [.v 8,.k (.clo 171 [])],(some (7,false))⟩,oU 10 (.pick (.v 7) (.k (.bool true)) (.v 9))] [0,10]) (.cnd (.v 10) (.seq (.reg [ oU 2 (.nil 108),oU 3 (.cp (.k (.int .i64 4)))] [2,3]) (.ret)) (.skip))) (.seq (.reg [ oC 11 0,oC 2 11,oU 3 (.cp (.k (.int .i64 0)))] [2,3]) (.ret)))
def rs129 : List RV := [.t 2, .t 3]
theorem chk129 : chkFn Tryz.prog Tryz.f129 1 pc129 rs129 = true := by kernel_rfl
theorem rule129 : Rl 129 1 pc129 rs129 := rlM Tryz.func129 chk129

/-- klippe/surd.Sum$1 -/
def pc131 : PC := .seq (.reg [ oU 2 (.cp (.k (.str [])))] []) (.seq (.reg [ oU 2 (.cp (.k (.str [49])))] [2]) (.ret))
def rs131 : List RV := [.t 2]
theorem chk131 : chkFn Tryz.prog Tryz.f131 1 pc131 rs131 = true := by kernel_rfl
theorem rule131 : Rl 131 1 pc131 rs131 := rlM Tryz.func131 chk131

/-- klippe/polyline.crossed -/
def pc132 : PC := .seq (.reg [ oU 8 (.cp (.k (.bool false)))] [0,1,2,3]) (.seq (.reg [ oC 13 0,oU 14 (.len (.v 13)),oC 9 14] [0,1,2,3,9]) (.seq (.reg [ oC 16 0,oC 17 2,oU 18 (.ia 2 (.v 16) (.v 17)),oU 19 (.ld true 2 (.v 18)),oC 20 0,oC 21 2,oU 22 (.ari .add .i64 (.v 21) (.k (.int .i64 1))),oC 23 9,oU 24 (.ari .rem .i64 (.v 22) (.v 23)),oU 25 (.ia 2 (.v 20) (.v 24)),oU 26 (.ld true 2 (.v 25)),oC 27 0,oC 28 3,oU 29 (.ia 2 (.v 27) (.v 28)),oU 30 (.ld true 2 (.v 29)),oC 31 0,oC 32 3,oU 33 (.ari .add .i64 (.v 32) (.k (.int .i64 1))),oC 34 9,oU 35 (.ari .rem .i64 (.v 33) (.v 34)),oU 36 (.ia 2 (.v 31) (.v 35)),oU 37 (.ld true 2 (.v 36)),oU 38 (.call 46 [.v 19,.v 26,.v 30,.v 37]),oC 15 38,oU 39 (.ext 15 0),oU 40 (.ext 15 1),oU 11 (.alloc [.str [],.str []]),oC 10 39,⟨none,.st 2 (.v 11) (.v 40),none⟩] [0,1,2,3,9,10,11]) (.seq (.reg [ oC 41 3,oC 42 2,oU 43 (.ari .add .i64 (.v 42) (.k (.int .i64 1))),oU 44 (.ci .eql (.v 41) (.v 43)),oC 45 44,⟨some 46,.cp (.v 1),(some (45,false))⟩,⟨some 47,.cp (.v 9),(some (45,false))⟩,⟨some 48,.ci .eql (.v 46) (.v 47),(some (45,false))⟩,⟨some 49,.cp (.v 48),(some (45,false))⟩,⟨some 50,.cp (.v 2),(some (49,true))⟩,⟨some 51,.ci .eql (.v 50) (.k (.int .i64 0)),(some (49,true))⟩,⟨some 52,.pick (.v 49) (.v 51) (.k (.bool false)),(some (45,false))⟩,⟨some 53,.cp (.v 52),(some (45,false))⟩,⟨some 54,.cp (.v 3),(some (53,true))⟩,⟨some 55,.cp (.v 9),(some (53,true))⟩,⟨some 56,.ari .sub .i64 (.v 55) (.k (.int .i64 1)),(some (53,true))⟩,⟨some 57,.ci .eql (.v 54) (.v 56),(some (53,true))⟩,⟨some 58,.pick (.v 53) (.v 57) (.k (.bool false)),(some (45,false))⟩,oU 59 (.pick (.v 45) (.k (.bool true)) (.v 58)),oC 12 59] [0,2,3,9,10,11,12]) (.seq (.blk 0 (.seq (.reg [ oC 61 10,oU 62 (.ci .eql (.v 61) (.k (.int .i64 0))),oC 60 62] [0,2,3,9,10,11,12,60]) (.cnd (.v 60) (.seq (.reg [ oU 8 (.cp (.k (.bool false)))] [8]) (.ret)) (.seq (.reg [ oC 64 10,oU 65 (.ci .eql (.v 64) (.k (.int .i64 2))),oC 66 65,⟨some 67,.cp (.v 12),(some (66,false))⟩,⟨some 68,.not (.v 67),(some (66,false))⟩,oU 69 (.pick (.v 66) (.k (.bool true)) (.v 68)),oC 63 69] [0,2,3,9,11,63]) (.cnd (.v 63) (.seq (.reg [ oU 8 (.cp (.k (.bool true)))] [8]) (.ret)) (.seq (.reg [ oC 71 3,oC 72 2,oU 73 (.ari .add .i64 (.v 72) (.k (.int .i64 1))),oU 74 (.ci .eql (.v 71) (.v 73)),oC 75 74,⟨some 76,.ld true 2 (.v 11),(some (75,true))⟩,⟨some 77,.cp (.v 0),(some (75,true))⟩,⟨some 78,.cp (.v 3),(some (75,true))⟩,⟨some 79,.ia 2 (.v 77) (.v 78),(some (75,true))⟩,⟨some 80,.ld true 2 (.v 79),(some (75,true))⟩,⟨some 81,.eq false [2,2] (.v 76) (.v 80),(some (75,true))⟩,oU 82 (.pick (.v 75) (.v 81) (.k (.bool false))),oC 70 82] [0,2,3,9,11,70]) (.cnd (.v 70) (.seq (.reg [ oU 8 (.cp (.k (.bool false)))] [8]) (.ret)) (.skip)))))))) (.seq (.reg [ oU 83 (.ld true 2 (.v 11)),oC 84 0,oC 85 2,oU 86 (.ia 2 (.v 84) (.v 85)),oU 87 (.ld true 2 (.v 86)),oU 88 (.eq true [2,2] (.v 83) (.v 87)),oC 89 88,⟨some 90,.cp (.v 3),(some (89,false))⟩,⟨some 91,.cp (.v 9),(some (89,false))⟩,⟨some 92,.ari .sub .i64 (.v 91) (.k (.int .i64 1)),(some (89,false))⟩,⟨some 93,.ci .neq (.v 90) (.v 92),(some (89,false))⟩,oU 94 (.pick (.v 89) (.k (.bool true)) (.v 93)),oC 8 94] [8]) (.ret))))))
def rs132 : List RV := [.t 8]
theorem chk132 : chkFn Tryz.prog Tryz.f132 4 pc132 rs132 = true := by kernel_rfl
theorem rule132 : Rl 132 4 pc132 rs132 := rlM Tryz.func132 chk132

/-- klippe/surd.Check -/
def pc133 : PC := .seq (.reg [ oU 2 (.cp (.k (.int .i64 0)))] [0]) (.seq (.seq (.reg [ oC 7 0,oU 8 (.len (.v 7)),oU 9 (.ci .gtr (.v 8) (.k (.int .i64 40)))] [0,9]) (.cnd (.v 9) (.seq (.reg [ oU 2 (.cp (.k (.int .i64 4)))] [2]) (.ret)) (.skip))) (.seq (.seq (.reg [ oC 10 0,oU 11 (.len (.v 10)),oU 12 (.cp (.k (.int .i64 0)))] [0,10,11,12]) (.blk 0 (.loop (.seq (.reg [ oU 13 (.ci .lss (.v 12) (.v 11))] [0,10,11,12,13]) (.seq (.cnd (.v 13) (.skip) (.exit 0)) (.seq (.blk 1 (.seq (.reg [ oC 14 12,oU 15 (.ia 2 (.v 10) (.v 12)),oU 16 (.ld true 2 (.v 15)),oU 4 (.alloc [.str [],.str []]),oC 3 14,⟨none,.st 2 (.v 4) (.v 16),none⟩] [0,3,4,10,11,12]) (.seq (.blk 2 (.seq (.reg [ oU 18 (.fa 0 (.v 4)),oU 19 (.ld false 1 (.o 18 4)),oU 20 (.call 50 [.v 19]),oU 21 (.ci .neq (.v 20) (.k (.int .i64 0))),oC 17 21] [0,3,4,10,11,12,17]) (.cnd (.v 17) (.seq (.reg [ oU 2 (.cp (.k (.int .i64 2)))] [2]) (.ret)) (.seq (.reg [ oU 23 (.fa 0 (.v 4)),oU 24 (.ld false 1 (.o 23 4)),oU 25 (.sc .eql (.v 24) (.k (.str [48]))),oC 22 25] [0,3,4,10,11,12,22]) (.cnd (.v 22) (.seq (.reg [ oU 2 (.cp (.k (.int .i64 17)))] [2]) (.ret)) (.seq (.reg [ oU 27 (.fa 1 (.v 4)),oU 28 (.ld false 1 (.o 27 4)),oU 29 (.call 100 [.v 28]),oU 30 (.ci .neq (.v 29) (.k (.int .i64 0))),oC 26 30] [0,3,4,10,11,12,26]) (.cnd (.v 26) (.seq (.reg [ oU 2 (.cp (.k (.int .i64 2)))] [2]) (.ret)) (.seq (.reg [ oU 32 (.fa 1 (.v 4)),oU 33 (.ld false 1 (.o 32 4)),oU 34 (.call 108 [.v 33]),oU 35 (.ci .leq (.v 34) (.k (.int .i64 0))),oC 31 35] [0,3,4,10,11,12,31]) (.cnd (.v 31) (.seq (.reg [ oU 2 (.cp (.k (.int .i64 3)))] [2]) (.ret)) (.skip)))))))))) (.seq (.seq (.reg [ oU 37 (.fa 1 (.v 4)),oU 38 (.ld false 1 (.o 37 4)),oU 39 (.call 126 [.v 38]),oC 36 39,oU 40 (.ext 36 0),oU 41 (.ext 36 1),oC 5 40,oC 6 41] [0,3,4,6,10,11,12]) (.seq (.reg [ oC 42 6,oC 43 42,⟨some 44,.fa 1 (.v 4),(some (43,true))⟩,⟨some 45,.ld false 1 (.o 44 4),(some (43,true))⟩,⟨some 46,.sc .neq (.v 45) (.k (.str [49])),(some (43,true))⟩,oU 47 (.pick (.v 43) (.v 46) (.k (.bool false)))] [0,3,4,10,11,12,47]) (.cnd (.v 47) (.seq (.reg [ oU 2 (.cp (.k (.int .i64 7)))] [2]) (.ret)) (.skip)))) (.seq (.seq (.reg [ oC 48 3,oU 49 (.ci .gtr (.v 48) (.k (.int .i64 0))),oC 50 49,⟨some 51,.cp (.v 0),(some (50,true))⟩,⟨some 52,.cp (.v 3),(some (50,true))⟩,⟨some 53,.ari .sub .i64 (.v 52) (.k (.int .i64 1)),(some (50,true))⟩,⟨some 54,.ia 2 (.v 51) (.v 53),(some (50,true))⟩,⟨some 55,.fa 1 (.v 54),(some (50,true))⟩,⟨some 56,.ld false 1 (.o 55 54),(some (50,true))⟩,⟨some 57,.fa 1 (.v 4),(some (50,true))⟩,⟨some 58,.ld false 1 (.o 57 4),(some (50,true))⟩,⟨some 59,.call 59 [.v 56,.v 58],(some (50,true))⟩,⟨some 60,.ci .geq (.v 59) (.k (.int .i64 0)),(some (50,true))⟩,oU 61 (.pick (.v 50) (.v 60) (.k (.bool false)))] [0,3,4,10,11,12,61]) (.cnd (.v 61) (.seq (.reg [ oU 2 (.cp (.k (.int .i64 6)))] [2]) (.ret)) (.skip))) (.seq (.reg [ oC 62 0,oC 63 3,oU 64 (.slc 2 (.v 62) none (some (.v 63))),oU 65 (.mkf 177 [.v 4]),oU 66 (.call 170 [.v 64,.v 65])] [0,10,11,12,66]) (.cnd (.v 66) (.seq (.reg [ oU 2 (.cp (.k (.int .i64 7)))] [2]) (.ret)) (.skip)))))))) (.reg [ oU 67 (.ari .add .i64 (.v 12) (.k (.int .i64 1))),oC 12 67] [0,10,11,12]))))))) (.seq (.reg [ oU 2 (.cp (.k (.int .i64 0)))] [2]) (.ret))))
def rs133 : List RV := [.t 2]
theorem chk133 : chkFn Tryz.prog Tryz.f133 1 pc133 rs133 = true := by kernel_rfl
theorem rule133 : Rl 133 1 pc133 rs133 := rlM Tryz.func133 chk133

/-- klippe/surd.difference$1 -/
def pc134 : PC := .seq (.reg [ oU 2 (.cp (.k (.str [])))] [0]) (.seq (.reg [ oU 3 (.bldS 33 [.str []] 2 [(0,1,.k (.str [49])),(1,1,.k (.str [45,49]))]),oC 4 0,oU 5 (.ia 1 (.v 3) (.v 4)),oU 6 (.ld false 1 (.o 5 3)),oC 2 6] [2]) (.ret))
def rs134 : List RV := [.t 2]
theorem chk134 : chkFn Tryz.prog Tryz.f134 1 pc134 rs134 = true := by kernel_rfl
theorem rule134 : Rl 134 1 pc134 rs134 := rlM Tryz.func134 chk134

/-- klippe/vector.long -/
def pc135 : PC := .seq (.reg [ oU 2 (.cp (.k (.bool false)))] [0]) (.seq (.reg [ oC 6 0,oU 7 (.call 58 [.v 6]),oC 5 7,oU 8 (.ext 5 0),oU 9 (.ext 5 1),oC 3 8,oC 4 9] [3,4]) (.seq (.reg [ oC 10 3,oU 11 (.call 179 [.v 10]),oU 12 (.lenS (.v 11)),oU 13 (.ci .gtr (.v 12) (.k (.int .i64 200))),oC 14 13,⟨some 15,.cp (.v 4),(some (14,false))⟩,⟨some 16,.lenS (.v 15),(some (14,false))⟩,⟨some 17,.ci .gtr (.v 16) (.k (.int .i64 200)),(some (14,false))⟩,oU 18 (.pick (.v 14) (.k (.bool true)) (.v 17)),oC 2 18] [2]) (.ret)))
def rs135 : List RV := [.t 2]
theorem chk135 : chkFn Tryz.prog Tryz.f135 1 pc135 rs135 = true := by kernel_rfl
theorem rule135 : Rl 135 1 pc135 rs135 := rlM Tryz.func135 chk135

/-- internal/stringslite.Cut -/
def pc137 : PC := .seq (.reg [ oU 4 (.cp (.k (.str []))),oU 5 (.cp (.k (.str []))),oU 6 (.cp (.k (.bool false)))] [0,1]) (.seq (.seq (.reg [ oC 8 0,oC 9 1,oU 10 (.call 188 [.v 8,.v 9]),oC 7 10] [0,1,7]) (.seq (.reg [ oC 11 7,oU 12 (.ci .geq (.v 11) (.k (.int .i64 0)))] [0,1,7,12]) (.cnd (.v 12) (.seq (.reg [ oC 13 0,oC 14 7,oU 15 (.slS (.v 13) none (some (.v 14))),oC 16 0,oC 17 7,oC 18 1,oU 19 (.lenS (.v 18)),oU 20 (.ari .add .i64 (.v 17) (.v 19)),oU 21 (.slS (.v 16) (some (.v 20)) none),oC 4 15,oC 5 21,oU 6 (.cp (.k (.bool true)))] [4,5,6]) (.ret)) (.skip)))) (.seq (.reg [ oC 22 0,oC 4 22,oU 5 (.cp (.k (.str []))),oU 6 (.cp (.k (.bool false)))] [4,5,6]) (.ret)))
def rs137 : List RV := [.t 4, .t 5, .t 6]
theorem chk137 : chkFn Tryz.prog Tryz.f137 2 pc137 rs137 = true := by kernel_rfl
theorem rule137 : Rl 137 2 pc137 rs137 := rlM Tryz.func137 chk137

/-- strings.CutPrefix -/
def pc138 : PC := .seq (.reg [ oU 4 (.cp (.k (.str []))),oU 5 (.cp (.k (.bool false)))] [0,1]) (.seq (.reg [ oC 6 0,oC 7 1,oU 8 (.call 189 [.v 6,.v 7]),oU 9 (.ext 8 0),oU 10 (.ext 8 1),oC 4 9,oC 5 10] [4,5]) (.ret))
def rs138 : List RV := [.t 4, .t 5]
theorem chk138 : chkFn Tryz.prog Tryz.f138 2 pc138 rs138 = true := by kernel_rfl
theorem rule138 : Rl 138 2 pc138 rs138 := rlM Tryz.func138 chk138

/-- klippe/integer.divide -/
def pc139 : PC := .seq (.reg [ oU 3 (.bx 1 (.v 1)),oU 4 (.alG 178),oU 5 (.nil 178)] [0,3,4,5,1000004]) (.seq (.seq (.reg [ oU 14 (.mv (.v 0)),oU 15 (.ld false 1 (.v 3)),oU 16 (.call 121 [.o 14 0,.v 15]),oU 17 (.ci .lss (.v 16) (.k (.int .i64 0)))] [0,3,4,5,17,1000004]) (.cnd (.v 17) (.seq (.reg [ oU 18 (.tk 0),⟨none,.sgP 4 (.k (.sl 0 [])) [],none⟩,oU 5 (.tk 18)] [4,5,1000004]) (.ret)) (.skip))) (.seq (.seq (.reg [ oU 19 (.ld false 1 (.v 3)),oU 20 (.len (.v 19)),oU 21 (.ci .eql (.v 20) (.k (.int .i64 1)))] [0,3,4,5,21,1000004]) (.cnd (.v 21) (.seq (.reg [ oU 22 (.mv (.v 0)),oU 23 (.len (.o 22 0)),oU 24 (.mkS 178 [.int .u64 0] 8 (.v 23) (.v 23)),⟨none,.sgO 4 (.v 24) [],none⟩] [0,3,4,1000004]) (.seq (.reg [ oU 6 (.alloc [.int .u64 0]),⟨none,.st 1 (.v 6) (.k (.int .u64 0)),none⟩] [0,3,4,6,1000004]) (.seq (.seq (.reg [ oU 25 (.tk 0),oU 26 (.call 154 [.v 25])] [3,4,6,26,1000004]) (.blk 0 (.rfn 206 false 1 26 27 28 [7,8,27,28,29,30,31,32,33,34,35,36,37,38,39,40,41,42,43,44,45] (.seq (.reg [ oC 7 27] [3,4,6,7,26,28,1000004]) (.reg [ oC 8 28] [3,4,6,7,8,26,1000004])) (.blk 1 (.seq (.reg [ oU 29 (.ld false 1 (.v 6)),oU 30 (.ari .mul .u64 (.v 29) (.k (.int .u64 1000000000))),oC 31 8,oU 32 (.ari .add .u64 (.v 30) (.v 31)),⟨none,.st 1 (.v 6) (.v 32),none⟩] [3,4,6,7,26,1000004]) (.reg [ oU 33 (.lg 4),oC 34 7,oU 35 (.ld false 1 (.v 6)),oU 36 (.ld false 1 (.v 3)),oU 37 (.ia 1 (.v 36) (.k (.int .i64 0))),oU 38 (.ld false 1 (.v 37)),oU 39 (.ari .quo .u64 (.v 35) (.v 38)),oU 40 (.ld false 1 (.v 6)),oU 41 (.ld false 1 (.v 3)),oU 42 (.ia 1 (.v 41) (.k (.int .i64 0))),oU 43 (.ld false 1 (.v 42)),oU 44 (.ari .rem .u64 (.v 40) (.v 43)),oU 45 (.ia 1 (.o 33 1000004) (.v 34)),⟨none,.st 1 (.o 45 1000004) (.v 39),none⟩,⟨none,.st 1 (.v 6) (.v 44),none⟩] [3,4,6,26,1000004]))) [3,4,6,26,1000004]))) (.seq (.reg [ oU 46 (.lg 4),oU 47 (.call 152 [.o 46 1000004]),oU 48 (.ld false 1 (.v 6)),oU 49 (.bldS 178 [.int .u64 0] 1 [(0,1,.v 48)]),oU 50 (.call 152 [.v 49]),⟨none,.sgP 4 (.v 47) [46],none⟩,oU 5 (.tk 50)] [4,5,1000004]) (.ret))))) (.skip))) (.seq (.reg [ oU 51 (.ld false 1 (.v 3)),oU 52 (.ld false 1 (.v 3)),oU 53 (.len (.v 52)),oU 54 (.ari .sub .i64 (.v 53) (.k (.int .i64 1))),oU 55 (.ia 1 (.v 51) (.v 54)),oU 56 (.ld false 1 (.v 55)),oU 57 (.ari .add .u64 (.v 56) (.k (.int .u64 1))),oU 58 (.ari .quo .u64 (.k (.int .u64 1000000000)) (.v 57)),oC 9 58] [0,3,4,5,9,1000004]) (.seq (.reg [ oU 59 (.sh (.v 0)),oC 60 9,oU 61 (.call 190 [.v 59,.v 60]),oU 62 (.ld false 1 (.v 3)),oC 63 9,oU 64 (.call 190 [.v 62,.v 63]),oU 0 (.tk 61),⟨none,.st 1 (.v 3) (.v 64),none⟩] [0,3,4,5,9,1000004]) (.seq (.reg [ oU 65 (.mv (.v 0)),oU 66 (.len (.o 65 0)),oU 67 (.mkS 178 [.int .u64 0] 8 (.v 66) (.v 66)),⟨none,.sgO 4 (.v 67) [],none⟩] [0,3,4,5,9,1000004]) (.seq (.reg [ oU 68 (.ld false 1 (.v 3)),oU 69 (.ld false 1 (.v 3)),oU 70 (.len (.v 69)),oU 71 (.ari .sub .i64 (.v 70) (.k (.int .i64 1))),oU 72 (.ia 1 (.v 68) (.v 71)),oU 73 (.ld false 1 (.v 72)),oC 10 73] [0,3,4,5,9,10,1000004]) (.seq (.seq (.reg [ oU 74 (.mv (.v 0)),oU 75 (.len (.o 74 0)),oU 76 (.ari .sub .i64 (.v 75) (.k (.int .i64 1))),oC 11 76] [0,3,4,5,9,10,11,1000004]) (.blk 2 (.loop (.seq (.seq (.reg [ oC 77 11,oU 78 (.ci .geq (.v 77) (.k (.int .i64 0)))] [0,3,4,5,9,10,11,78,1000004]) (.cnd (.v 78) (.skip) (.exit 2))) (.seq (.blk 3 (.seq (.reg [ oU 81 (.mv (.v 0)),oC 82 11,oU 83 (.ia 1 (.o 81 0) (.v 82)),oU 84 (.ld false 1 (.o 83 0)),oU 85 (.bldS 178 [.int .u64 0] 1 [(0,1,.v 84)]),oU 86 (.sh (.v 5)),oU 87 (.app 178 1 8 (.v 85) (.v 86)),oU 88 (.call 152 [.v 87]),oU 5 (.tk 88)] [0,3,4,5,9,10,11,1000004]) (.seq (.seq (.reg [ oU 89 (.mv (.v 5)),oU 90 (.ld false 1 (.v 3)),oU 91 (.call 121 [.o 89 5,.v 90]),oU 92 (.ci .lss (.v 91) (.k (.int .i64 0)))] [0,3,4,5,9,10,11,92,1000004]) (.cnd (.v 92) (.exit 3) (.skip))) (.seq (.reg [ oU 93 (.mv (.v 5)),oU 94 (.mv (.v 5)),oU 95 (.len (.o 94 5)),oU 96 (.ari .sub .i64 (.v 95) (.k (.int .i64 1))),oU 97 (.ia 1 (.o 93 5) (.v 96)),oU 98 (.ld false 1 (.o 97 5)),oC 12 98] [0,3,4,5,9,10,11,12,1000004]) (.seq (.seq (.reg [ oU 99 (.mv (.v 5)),oU 100 (.len (.o 99 5)),oU 101 (.ld false 1 (.v 3)),oU 102 (.len (.v 101)),oU 103 (.ci .gtr (.v 100) (.v 102))] [0,3,4,5,9,10,11,12,103,1000004]) (.cnd (.v 103) (.reg [ oC 104 12,oU 105 (.ari .mul .u64 (.v 104) (.k (.int .u64 1000000000))),oU 106 (.mv (.v 5)),oU 107 (.mv (.v 5)),oU 108 (.len (.o 107 5)),oU 109 (.ari .sub .i64 (.v 108) (.k (.int .i64 2))),oU 110 (.ia 1 (.o 106 5) (.v 109)),oU 111 (.ld false 1 (.o 110 5)),oU 112 (.ari .add .u64 (.v 105) (.v 111)),oC 12 112] [0,3,4,5,9,10,11,12,1000004]) (.skip))) (.seq (.reg [ oC 113 12,oC 114 10,oU 115 (.ari .quo .u64 (.v 113) (.v 114)),oU 116 (.mm false [.v 115,.k (.int .u64 999999999)]),oC 12 116] [0,3,4,5,9,10,11,12,1000004]) (.seq (.reg [ oU 117 (.ld false 1 (.v 3)),oC 118 12,oU 119 (.call 190 [.v 117,.v 118]),oU 13 (.tk 119)] [0,3,4,5,9,10,11,12,13,1000004]) (.seq (.blk 4 (.loop (.seq (.seq (.reg [ oU 120 (.mv (.v 13)),oU 121 (.mv (.v 5)),oU 122 (.call 121 [.o 120 13,.o 121 5]),oU 123 (.ci .gtr (.v 122) (.k (.int .i64 0)))] [0,3,4,5,9,10,11,12,13,123,1000004]) (.cnd (.v 123) (.skip) (.exit 4))) (.blk 5 (.seq (.reg [ oU 124 (.sh (.v 13)),oU 125 (.ld false 1 (.v 3)),oU 126 (.call 122 [.v 124,.v 125]),oU 13 (.tk 126)] [0,3,4,5,9,10,11,12,13,1000004]) (.reg [ oC 127 12,oU 128 (.ari .sub .u64 (.v 127) (.k (.int .u64 1))),oC 12 128] [0,3,4,5,9,10,11,12,13,1000004])))))) (.reg [ oU 129 (.lg 4),oC 130 11,oC 131 12,oU 132 (.sh (.v 5)),oU 133 (.tk 13),oU 134 (.call 122 [.v 132,.v 133]),oU 135 (.ia 1 (.o 129 1000004) (.v 130)),⟨none,.st 1 (.o 135 1000004) (.v 131),none⟩,oU 5 (.tk 134)] [0,3,4,5,9,10,11,1000004]))))))))) (.reg [ oC 79 11,oU 80 (.ari .sub .i64 (.v 79) (.k (.int .i64 1))),oC 11 80] [0,3,4,5,9,10,11,1000004])))))) (.seq (.reg [ oU 137 (.sh (.v 5)),oC 138 9,oU 139 (.bldS 178 [.int .u64 0] 1 [(0,1,.v 138)]),oU 140 (.call 139 [.v 137,.v 139]),oC 136 140,oU 141 (.ext 136 0),oU 142 (.ext 136 1),oC 5 141] [4,5,1000004]) (.seq (.reg [ oU 143 (.lg 4),oU 144 (.call 152 [.o 143 1000004]),oU 145 (.sh (.v 5)),⟨none,.sgP 4 (.v 144) [143],none⟩,oU 5 (.tk 145)] [4,5,1000004]) (.ret))))))))))
def rs139 : List RV := [.c 4 false 1, .t 5]
theorem chk139 : chkFnR Tryz.prog Tryz.f139 2 pc139 rs139 = true := by kernel_rfl
theorem nc139 : pc139.noCus = true := by kernel_rfl
theorem rule139 {L : World → Prop} (hL : ∀ w w', L w → Below w.heap.size w w' → L w') (hbk : ∀ q ∈ pc139.backs, IsBack Tryz.prog q.1 q.2.1 q.2.2) {ds : List D} {r : D} (hr0 : aliasOf r = none) (hlen : ds.length = 2) (hp : ds.all (fun d => (aliasOf d).isNone) = true)
    (h : wC (Con Tryz.prog L) pc139 (retQ rs139 r) (initE 0 ds)) : Con Tryz.prog L 139 ds r :=
  con_chkR hL Tryz.func139 chk139 hbk (fun c _ q hq => by rw [cusL_nil c _ nc139] at hq; cases hq) hr0 hlen hp (wC_sound h)

/-- klippe/klipperef01.Split -/
def pc140 : PC := .seq (.reg [ oU 2 (.cp (.k (.bool false))),oU 3 (.cp (.k (.str [])))] [0]) (.seq (.reg [ oC 5 0,oC 4 5] [4]) (.seq (.seq (.reg [ oC 6 4,oU 7 (.lenS (.v 6)),oU 8 (.ci .gtr (.v 7) (.k (.int .i64 0))),oC 9 8,⟨some 10,.cp (.v 4),(some (9,true))⟩,⟨some 11,.ix (.v 10) (.k (.int .i64 0)),(some (9,true))⟩,⟨some 12,.ci .eql (.v 11) (.k (.int .u8 45)),(some (9,true))⟩,oU 13 (.pick (.v 9) (.v 12) (.k (.bool false)))] [4,13]) (.cnd (.v 13) (.seq (.reg [ oC 14 4,oU 15 (.slS (.v 14) (some (.k (.int .i64 1))) none),oU 2 (.cp (.k (.bool true))),oC 3 15] [2,3]) (.ret)) (.skip))) (.seq (.reg [ oC 16 4,oU 2 (.cp (.k (.bool false))),oC 3 16] [2,3]) (.ret))))
def rs140 : List RV := [.t 2, .t 3]
theorem chk140 : chkFn Tryz.prog Tryz.f140 1 pc140 rs140 = true := by kernel_rfl
theorem rule140 : Rl 140 1 pc140 rs140 := rlM Tryz.func140 chk140

/-- strings.HasPrefix -/
def pc147 : PC := .seq (.reg [ oU 4 (.cp (.k (.bool false)))] [0,1]) (.seq (.reg [ oC 5 0,oC 6 1,oU 7 (.call 200 [.v 5,.v 6]),oC 4 7] [4]) (.ret))
def rs147 : List RV := [.t 4]
theorem chk147 : chkFn Tryz.prog Tryz.f147 2 pc147 rs147 = true := by kernel_rfl
theorem rule147 : Rl 147 2 pc147 rs147 := rlM Tryz.func147 chk147

/-- internal/stringslite.TrimPrefix -/
def pc148 : PC := .seq (.reg [ oU 4 (.cp (.k (.str [])))] [0,1]) (.seq (.seq (.reg [ oC 5 0,oC 6 1,oU 7 (.call 200 [.v 5,.v 6])] [0,1,7]) (.cnd (.v 7) (.seq (.reg [ oC 8 0,oC 9 1,oU 10 (.lenS (.v 9)),oU 11 (.slS (.v 8) (some (.v 10)) none),oC 4 11] [4]) (.ret)) (.skip))) (.seq (.reg [ oC 12 0,oC 4 12] [4]) (.ret)))
def rs148 : List RV := [.t 4]
theorem chk148 : chkFn Tryz.prog Tryz.f148 2 pc148 rs148 = true := by kernel_rfl
theorem rule148 : Rl 148 2 pc148 rs148 := rlM Tryz.func148 chk148

/-- klippe/integer.trim -/
def pc152 : PC := .seq (.reg [ oU 2 (.nil 178)] [0]) (.seq (.blk 0 (.loop (.seq (.seq (.reg [ oC 3 0,oU 4 (.len (.v 3)),oU 5 (.ci .gtr (.v 4) (.k (.int .i64 0))),oC 6 5,⟨some 7,.cp (.v 0),(some (6,true))⟩,⟨some 8,.cp (.v 0),(some (6,true))⟩,⟨some 9,.len (.v 8),(some (6,true))⟩,⟨some 10,.ari .sub .i64 (.v 9) (.k (.int .i64 1)),(some (6,true))⟩,⟨some 11,.ia 1 (.v 7) (.v 10),(some (6,true))⟩,⟨some 12,.ld false 1 (.v 11),(some (6,true))⟩,⟨some 13,.ci .eql (.v 12) (.k (.int .u64 0)),(some (6,true))⟩,oU 14 (.pick (.v 6) (.v 13) (.k (.bool false)))] [0,14]) (.cnd (.v 14) (.skip) (.exit 0))) (.blk 1 (.reg [ oC 15 0,oC 16 0,oU 17 (.len (.v 16)),oU 18 (.ari .sub .i64 (.v 17) (.k (.int .i64 1))),oU 19 (.slc 1 (.v 15) none (some (.v 18))),oC 0 19] [0]))))) (.seq (.reg [ oC 20 0,oC 2 20] [2]) (.ret)))
def rs152 : List RV := [.t 2]
theorem chk152 : chkFn Tryz.prog Tryz.f152 1 pc152 rs152 = true := by kernel_rfl
theorem rule152 : Rl 152 1 pc152 rs152 := rlM Tryz.func152 chk152

/-- strconv.FormatUint -/
def pc155 : PC := .seq (.reg [ oU 4 (.cp (.k (.str [])))] [0,1]) (.seq (.reg [ oC 5 0,oC 6 1,oU 7 (.call 207 [.v 5,.v 6]),oC 4 7] [4]) (.ret))
def rs155 : List RV := [.t 4]
theorem chk155 : chkFn Tryz.prog Tryz.f155 2 pc155 rs155 = true := by kernel_rfl
theorem rule155 : Rl 155 2 pc155 rs155 := rlM Tryz.func155 chk155

/-- klippe/integer.Root -/
def pc169 : PC := .seq (.reg [ oU 2 (.cp (.k (.str []))),oU 3 (.cp (.k (.int .i64 0)))] [0]) (.seq (.seq (.reg [ oC 10 0,oU 11 (.call 108 [.v 10]),oU 12 (.ci .lss (.v 11) (.k (.int .i64 0)))] [0,12]) (.cnd (.v 12) (.seq (.reg [ oU 2 (.cp (.k (.str []))),oU 3 (.cp (.k (.int .i64 3)))] [2,3]) (.ret)) (.skip))) (.seq (.reg [ oC 13 0,oU 14 (.call 112 [.v 13]),oU 15 (.fld false 1 1 (.v 14)),oC 4 15] [4]) (.seq (.seq (.reg [ oC 16 4,oU 17 (.len (.v 16)),oU 18 (.ci .eql (.v 17) (.k (.int .i64 0)))] [4,18]) (.cnd (.v 18) (.seq (.reg [ oU 2 (.cp (.k (.str [48]))),oU 3 (.cp (.k (.int .i64 0)))] [2,3]) (.ret)) (.skip))) (.seq (.reg [ oC 19 4,oU 20 (.len (.v 19)),oU 21 (.ari .add .i64 (.v 20) (.k (.int .i64 1))),oU 22 (.ari .quo .i64 (.v 21) (.k (.int .i64 2))),oU 23 (.mkS 178 [.int .u64 0] 8 (.v 22) (.v 22)),oU 24 (.bldS 178 [.int .u64 0] 1 [(0,1,.k (.int .u64 1))]),oU 25 (.app 178 1 8 (.v 23) (.v 24)),oU 5 (.tk 25)] [4,5]) (.blk 0 (.loop (.blk 1 (.seq (.reg [ oC 27 4,oU 28 (.mv (.v 5)),oU 29 (.call 139 [.v 27,.o 28 5]),oC 26 29,oU 30 (.ext 26 0),oU 31 (.ext 26 1),oC 6 30,oC 7 31] [4,5,6]) (.seq (.reg [ oU 33 (.mv (.v 5)),oC 34 6,oU 35 (.call 120 [.o 33 5,.v 34]),oU 36 (.bldS 178 [.int .u64 0] 1 [(0,1,.k (.int .u64 2))]),oU 37 (.call 139 [.v 35,.v 36]),oC 32 37,oU 38 (.ext 32 0),oU 39 (.ext 32 1),oC 8 38,oC 9 39] [4,5,8]) (.seq (.seq (.reg [ oC 40 8,oU 41 (.mv (.v 5)),oU 42 (.call 121 [.v 40,.o 41 5]),oU 43 (.ci .geq (.v 42) (.k (.int .i64 0)))] [4,5,8,43]) (.cnd (.v 43) (.seq (.reg [ oU 44 (.sh (.v 5)),oU 45 (.bld [.bool false,.sl 0 []] [(0,1,.k (.bool false)),(1,1,.v 44)]),oU 46 (.call 114 [.v 45]),oC 2 46,oU 3 (.cp (.k (.int .i64 0)))] [2,3]) (.ret)) (.skip))) (.reg [ oC 47 8,oC 5 47] [4,5])))))))))))
def rs169 : List RV := [.t 2, .t 3]
theorem chk169 : chkFn Tryz.prog Tryz.f169 1 pc169 rs169 = true := by kernel_rfl
theorem rule169 : Rl 169 1 pc169 rs169 := rlM Tryz.func169 chk169

/-- slices.ContainsFunc[klippe/surd.Surd,klippe/surd.Term] -/
def pc170 : PC := .seq (.reg [ oU 4 (.cp (.k (.bool false)))] [0,1]) (.seq (.reg [ oC 5 0,oC 6 1,oU 7 (.call 214 [.v 5,.v 6]),oU 8 (.ci .geq (.v 7) (.k (.int .i64 0))),oC 4 8] [4]) (.ret))
def rs170 : List RV := [.t 4]
theorem chk170 : chkFn Tryz.prog Tryz.f170 2 pc170 rs170 = true := by kernel_rfl
theorem rule170 : Rl 170 2 pc170 rs170 := rlM Tryz.func170 chk170

/-- klippe/surd.result$1 -/
def pc171 : PC := .seq (.reg [ oU 1 (.bx 2 (.v 0)),oU 2 (.cp (.k (.bool false)))] [1]) (.seq (.reg [ oU 3 (.fa 0 (.v 1)),oU 4 (.ld false 1 (.o 3 1)),oU 5 (.call 50 [.v 4]),oU 6 (.ci .neq (.v 5) (.k (.int .i64 0))),oC 7 6,⟨some 8,.fa 1 (.v 1),(some (7,false))⟩,⟨some 9,.ld false 1 (.o 8 1),(some (7,false))⟩,⟨some 10,.call 100 [.v 9],(some (7,false))⟩,⟨some 11,.ci .neq (.v 10) (.k (.int .i64 0)),(some (7,false))⟩,oU 12 (.pick (.v 7) (.k (.bool true)) (.v 11)),oC 2 12] [2]) (.ret))
def rs171 : List RV := [.t 2]
theorem chk171 : chkFn Tryz.prog Tryz.f171 1 pc171 rs171 = true := by kernel_rfl
theorem rule171 : Rl 171 1 pc171 rs171 := rlM Tryz.func171 chk171

/-- klippe/surd.sum$1 -/
def pc174 : PC := .seq (.reg [ oU 1 (.bx 2 (.v 0)),oU 2 (.cp (.k (.bool false)))] [1]) (.seq (.reg [ oU 3 (.fa 0 (.v 1)),oU 4 (.ld false 1 (.o 3 1)),oU 5 (.sc .eql (.v 4) (.k (.str [48]))),oC 2 5] [2]) (.ret))
def rs174 : List RV := [.t 2]
theorem chk174 : chkFn Tryz.prog Tryz.f174 1 pc174 rs174 = true := by kernel_rfl
theorem rule174 : Rl 174 1 pc174 rs174 := rlM Tryz.func174 chk174

/-- klippe/surd.sum$2 -/
def pc176 : PC := .seq (.reg [ oU 2 (.bx 2 (.v 0)),oU 3 (.bx 2 (.v 1)),oU 4 (.cp (.k (.int .i64 0)))] [2,3]) (.seq (.reg [ oU 5 (.fa 1 (.v 2)),oU 6 (.ld false 1 (.o 5 2)),oU 7 (.fa 1 (.v 3)),oU 8 (.ld false 1 (.o 7 3)),oU 9 (.call 59 [.v 6,.v 8]),oC 4 9] [4]) (.ret))
def rs176 : List RV := [.t 4]
theorem chk176 : chkFn Tryz.prog Tryz.f176 2 pc176 rs176 = true := by kernel_rfl
theorem rule176 : Rl 176 2 pc176 rs176 := rlM Tryz.func176 chk176

/-- klippe/surd.Check$1 -/
def pc177 : PC := .seq (.reg [ oU 2 (.bx 2 (.v 0)),oU 3 (.cp (.k (.bool false)))] [1,2]) (.seq (.reg [ oU 7 (.fa 1 (.v 2)),oU 8 (.ld false 1 (.o 7 2)),oU 9 (.fa 1 (.v 1)),oU 10 (.ld false 1 (.v 9)),oU 11 (.call 178 [.v 8,.v 10]),oC 6 11,oU 12 (.ext 6 0),oU 13 (.ext 6 1),oC 4 12,oC 5 13] [5]) (.seq (.reg [ oC 14 5,oC 3 14] [3]) (.ret)))
def rs177 : List RV := [.t 3]
theorem chk177 : chkFn Tryz.prog Tryz.f177 2 pc177 rs177 = true := by kernel_rfl
theorem rule177 : Rl 177 2 pc177 rs177 := rlM Tryz.func177 chk177

/-- klippe/surd.alike -/
def pc178 : PC := .seq (.reg [ oU 4 (.cp (.k (.str []))),oU 5 (.cp (.k (.bool false)))] [0,1]) (.seq (.seq (.reg [ oC 6 0,oC 7 1,oU 8 (.sc .eql (.v 6) (.v 7))] [0,1,8]) (.cnd (.v 8) (.seq (.reg [ oC 9 0,oC 4 9,oU 5 (.cp (.k (.bool true)))] [4,5]) (.ret)) (.skip))) (.seq (.reg [ oC 10 0,oC 11 1,oU 12 (.call 60 [.v 10,.v 11]),oU 13 (.call 126 [.v 12]),oU 14 (.ext 13 0),oU 15 (.ext 13 1),oC 4 14,oC 5 15] [4,5]) (.ret)))
def rs178 : List RV := [.t 4, .t 5]
theorem chk178 : chkFn Tryz.prog Tryz.f178 2 pc178 rs178 = true := by kernel_rfl
theorem rule178 : Rl 178 2 pc178 rs178 := rlM Tryz.func178 chk178

/-- klippe/integer.Abs -/
def pc179 : PC := .seq (.reg [ oU 2 (.cp (.k (.str [])))] [0]) (.seq (.reg [ oC 3 0,oU 4 (.call 109 [.v 3,.k (.str [45])]),oC 2 4] [2]) (.ret))
def rs179 : List RV := [.t 2]
theorem chk179 : chkFn Tryz.prog Tryz.f179 1 pc179 rs179 = true := by kernel_rfl
theorem rule179 : Rl 179 1 pc179 rs179 := rlM Tryz.func179 chk179

/-- internal/stringslite.CutPrefix -/
def pc189 : PC := .seq (.reg [ oU 4 (.cp (.k (.str []))),oU 5 (.cp (.k (.bool false)))] [0,1]) (.seq (.seq (.reg [ oC 6 0,oC 7 1,oU 8 (.call 200 [.v 6,.v 7]),oU 9 (.not (.v 8))] [0,1,9]) (.cnd (.v 9) (.seq (.reg [ oC 10 0,oC 4 10,oU 5 (.cp (.k (.bool false)))] [4,5]) (.ret)) (.skip))) (.seq (.reg [ oC 11 0,oC 12 1,oU 13 (.lenS (.v 12)),oU 14 (.slS (.v 11) (some (.v 13)) none),oC 4 14,oU 5 (.cp (.k (.bool true)))] [4,5]) (.ret)))
def rs189 : List RV := [.t 4, .t 5]
theorem chk189 : chkFn Tryz.prog Tryz.f189 2 pc189 rs189 = true := by kernel_rfl
theorem rule189 : Rl 189 2 pc189 rs189 := rlM Tryz.func189 chk189

/-- klippe/integer.small -/
def pc190 : PC := .seq (.reg [ oU 4 (.nil 178)] [0,1]) (.seq (.reg [ oC 5 0,oC 6 1,oU 7 (.bldS 178 [.int .u64 0] 1 [(0,1,.v 6)]),oU 8 (.call 152 [.v 7]),oU 9 (.call 113 [.v 5,.v 8]),oU 4 (.tk 9)] [4]) (.ret))
def rs190 : List RV := [.t 4]
theorem chk190 : chkFn Tryz.prog Tryz.f190 2 pc190 rs190 = true := by kernel_rfl
theorem rule190 : Rl 190 2 pc190 rs190 := rlM Tryz.func190 chk190

/-- klippe/klipperef01.brief -/
def pc194 : PC := .seq (.reg [ oU 2 (.cp (.k (.int .i64 0))),oU 3 (.cp (.k (.bool false)))] [0]) (.seq (.reg [ oC 7 0,oU 8 (.call 140 [.v 7]),oC 6 8,oU 9 (.ext 6 0),oU 10 (.ext 6 1),oC 4 9,oC 5 10] [0,5]) (.seq (.seq (.reg [ oC 11 5,oU 12 (.lenS (.v 11)),oU 13 (.ci .gtr (.v 12) (.k (.int .i64 17)))] [0,13]) (.cnd (.v 13) (.seq (.reg [ oU 2 (.cp (.k (.int .i64 0))),oU 3 (.cp (.k (.bool false)))] [2,3]) (.ret)) (.skip))) (.seq (.reg [ oC 14 0,oU 15 (.call 223 [.v 14]),oU 16 (.ext 15 0),oU 17 (.ext 15 1),oC 2 16,oC 3 17] [2,3]) (.ret))))
def rs194 : List RV := [.t 2, .t 3]
theorem chk194 : chkFn Tryz.prog Tryz.f194 1 pc194 rs194 = true := by kernel_rfl
theorem rule194 : Rl 194 1 pc194 rs194 := rlM Tryz.func194 chk194

/-- klippe/klipperef01.take -/
def pc197 : PC := .seq (.reg [ oU 2 (.nil 3)] [0]) (.seq (.reg [ oU 3 (.nil 3)] [0,3]) (.seq (.seq (.reg [ oC 7 0,oU 8 (.lenS (.v 7)),oC 4 8] [0,3,4]) (.blk 0 (.loop (.seq (.seq (.reg [ oC 9 4,oU 10 (.ci .gtr (.v 9) (.k (.int .i64 0)))] [0,3,4,10]) (.cnd (.v 10) (.skip) (.exit 0))) (.seq (.blk 1 (.seq (.reg [ oU 5 (.cp (.k (.int .i64 0)))] [0,3,4,5]) (.seq (.seq (.reg [ oC 13 4,oU 14 (.ari .sub .i64 (.v 13) (.k (.int .i64 4))),oU 15 (.mm true [.k (.int .i64 0),.v 14]),oC 6 15] [0,3,4,5,6]) (.blk 2 (.loop (.seq (.seq (.reg [ oC 16 6,oC 17 4,oU 18 (.ci .lss (.v 16) (.v 17))] [0,3,4,5,6,18]) (.cnd (.v 18) (.skip) (.exit 2))) (.seq (.blk 3 (.reg [ oC 21 5,oU 22 (.ari .mul .i64 (.k (.int .i64 10)) (.v 21)),oC 23 0,oC 24 6,oU 25 (.ix (.v 23) (.v 24)),oU 26 (.cvI .i64 (.v 25)),oU 27 (.ari .add .i64 (.v 22) (.v 26)),oU 28 (.ari .sub .i64 (.v 27) (.k (.int .i64 48))),oC 5 28] [0,3,4,5,6])) (.reg [ oC 19 6,oU 20 (.ari .add .i64 (.v 19) (.k (.int .i64 1))),oC 6 20] [0,3,4,5,6])))))) (.reg [ oU 29 (.tk 3),oC 30 5,oU 31 (.bldS 3 [.int .i64 0] 1 [(0,1,.v 30)]),oU 32 (.app 3 1 8 (.v 29) (.v 31)),oU 3 (.tk 32)] [0,3,4])))) (.reg [ oC 11 4,oU 12 (.ari .sub .i64 (.v 11) (.k (.int .i64 4))),oC 4 12] [0,3,4])))))) (.seq (.reg [ oU 33 (.tk 3),oU 34 (.call 224 [.v 33]),oU 2 (.tk 34)] [2]) (.ret))))
def rs197 : List RV := [.t 2]
theorem chk197 : chkFn Tryz.prog Tryz.f197 1 pc197 rs197 = true := by kernel_rfl
theorem rule197 : Rl 197 1 pc197 rs197 := rlM Tryz.func197 chk197

/-- klippe/klipperef01.joined -/
def pc198 : PC := .seq (.reg [ oU 8 (.nil 3)] [0,1,2,3]) (.seq (.reg [ oU 11 (.bldS 3 [.int .i64 0] 0 []),oC 12 0,oU 13 (.app 3 1 8 (.v 11) (.v 12)),oU 9 (.tk 13)] [1,2,3,9]) (.seq (.seq (.reg [ oU 10 (.cp (.k (.int .i64 0)))] [1,2,3,9,10]) (.blk 0 (.loop (.seq (.seq (.reg [ oC 14 10,oC 15 1,oU 16 (.len (.v 15)),oU 17 (.ci .lss (.v 14) (.v 16))] [1,2,3,9,10,17]) (.cnd (.v 17) (.skip) (.exit 0))) (.seq (.blk 1 (.seq (.blk 2 (.loop (.seq (.seq (.reg [ oU 20 (.mv (.v 9)),oU 21 (.len (.o 20 9)),oC 22 10,oC 23 3,oU 24 (.ari .add .i64 (.v 22) (.v 23)),oU 25 (.ci .leq (.v 21) (.v 24))] [1,2,3,9,10,25]) (.cnd (.v 25) (.skip) (.exit 2))) (.blk 3 (.reg [ oU 26 (.tk 9),oU 27 (.bldS 3 [.int .i64 0] 1 [(0,1,.k (.int .i64 0))]),oU 28 (.app 3 1 8 (.v 26) (.v 27)),oU 9 (.tk 28)] [1,2,3,9,10]))))) (.reg [ oU 29 (.mv (.v 9)),oC 30 10,oC 31 3,oU 32 (.ari .add .i64 (.v 30) (.v 31)),oU 33 (.ia 1 (.o 29 9) (.v 32)),oU 34 (.ld false 1 (.o 33 9)),oC 35 2,oC 36 1,oC 37 10,oU 38 (.ia 1 (.v 36) (.v 37)),oU 39 (.ld false 1 (.v 38)),oU 40 (.ari .mul .i64 (.v 35) (.v 39)),oU 41 (.ari .add .i64 (.v 34) (.v 40)),oU 42 (.ia 1 (.o 29 9) (.v 32)),⟨none,.st 1 (.o 42 9) (.v 41),none⟩] [1,2,3,9,10]))) (.reg [ oC 18 10,oU 19 (.ari .add .i64 (.v 18) (.k (.int .i64 1))),oC 10 19] [1,2,3,9,10])))))) (.seq (.reg [ oU 43 (.tk 9),oU 44 (.call 225 [.v 43]),oU 8 (.tk 44)] [8]) (.ret))))
def rs198 : List RV := [.t 8]
theorem chk198 : chkFn Tryz.prog Tryz.f198 4 pc198 rs198 = true := by kernel_rfl
theorem rule198 : Rl 198 4 pc198 rs198 := rlM Tryz.func198 chk198

/-- klippe/klipperef01.made -/
def pc199 : PC := .seq (.reg [ oU 4 (.cp (.k (.str [])))] [0,1]) (.seq (.reg [ oU 5 (.sh (.v 1)),oU 6 (.call 224 [.v 5]),oU 1 (.tk 6)] [0,1]) (.seq (.seq (.reg [ oC 7 0,oC 8 7,⟨some 9,.mv (.v 1),(some (8,true))⟩,⟨some 10,.len (.o 9 1),(some (8,true))⟩,⟨some 11,.ci .gtr (.v 10) (.k (.int .i64 0)),(some (8,true))⟩,oU 12 (.pick (.v 8) (.v 11) (.k (.bool false)))] [1,12]) (.cnd (.v 12) (.seq (.reg [ oU 13 (.tk 1),oU 14 (.call 226 [.v 13]),oU 15 (.cat (.k (.str [45])) (.v 14)),oC 4 15] [4]) (.ret)) (.skip))) (.seq (.reg [ oU 16 (.tk 1),oU 17 (.call 226 [.v 16]),oC 4 17] [4]) (.ret))))
def rs199 : List RV := [.t 4]
theorem chk199 : chkFn Tryz.prog Tryz.f199 2 pc199 rs199 = true := by kernel_rfl
theorem rule199 : Rl 199 2 pc199 rs199 := rlM Tryz.func199 chk199

/-- internal/stringslite.HasPrefix -/
def pc200 : PC := .seq (.reg [ oU 4 (.cp (.k (.bool false)))] [0,1]) (.seq (.reg [ oC 5 0,oU 6 (.lenS (.v 5)),oC 7 1,oU 8 (.lenS (.v 7)),oU 9 (.ci .geq (.v 6) (.v 8)),oC 10 9,⟨some 11,.cp (.v 0),(some (10,true))⟩,⟨some 12,.cp (.v 1),(some (10,true))⟩,⟨some 13,.lenS (.v 12),(some (10,true))⟩,⟨some 14,.slS (.v 11) none (some (.v 13)),(some (10,true))⟩,⟨some 15,.cp (.v 1),(some (10,true))⟩,⟨some 16,.sc .eql (.v 14) (.v 15),(some (10,true))⟩,oU 17 (.pick (.v 10) (.v 16) (.k (.bool false))),oC 4 17] [4]) (.ret))
def rs200 : List RV := [.t 4]
theorem chk200 : chkFn Tryz.prog Tryz.f200 2 pc200 rs200 = true := by kernel_rfl
theorem rule200 : Rl 200 2 pc200 rs200 := rlM Tryz.func200 chk200

/-- slices.IndexFunc[klippe/surd.Surd,klippe/surd.Term] -/
def pc214 : PC := .seq (.reg [ oU 4 (.cp (.k (.int .i64 0)))] [0,1]) (.seq (.seq (.reg [ oC 6 0,oU 7 (.len (.v 6)),oU 8 (.cp (.k (.int .i64 0)))] [0,1,7,8]) (.blk 0 (.loop (.seq (.reg [ oU 9 (.ci .lss (.v 8) (.v 7))] [0,1,7,8,9]) (.seq (.cnd (.v 9) (.skip) (.exit 0)) (.seq (.blk 1 (.seq (.reg [ oC 10 8,oC 5 10] [0,1,5,7,8]) (.seq (.reg [ oC 11 1,oC 12 0,oC 13 5,oU 14 (.ia 2 (.v 12) (.v 13)),oU 15 (.ld true 2 (.v 14)),oU 16 (.callV 11 [.v 15])] [0,1,5,7,8,16]) (.cnd (.v 16) (.seq (.reg [ oC 17 5,oC 4 17] [4]) (.ret)) (.skip))))) (.reg [ oU 18 (.ari .add .i64 (.v 8) (.k (.int .i64 1))),oC 8 18] [0,1,7,8]))))))) (.seq (.reg [ oU 4 (.cp (.k (.int .i64 (-1))))] [4]) (.ret)))
def rs214 : List RV := [.t 4]
theorem chk214 : chkFn Tryz.prog Tryz.f214 2 pc214 rs214 = true := by kernel_rfl
theorem rule214 : Rl 214 2 pc214 rs214 := rlM Tryz.func214 chk214

/-- klippe/klipperef01.Small -/
def pc223 : PC := .seq (.reg [ oU 2 (.cp (.k (.int .i64 0))),oU 3 (.cp (.k (.bool false)))] [0]) (.seq (.reg [ oC 10 0,oU 11 (.call 140 [.v 10]),oC 9 11,oU 12 (.ext 9 0),oU 13 (.ext 9 1),oC 4 12,oC 5 13] [4,5]) (.seq (.seq (.reg [ oC 14 5,oU 15 (.lenS (.v 14)),oU 16 (.ci .gtr (.v 15) (.k (.int .i64 19)))] [4,5,16]) (.cnd (.v 16) (.seq (.reg [ oU 2 (.cp (.k (.int .i64 0))),oU 3 (.cp (.k (.bool false)))] [2,3]) (.ret)) (.skip))) (.seq (.reg [ oU 6 (.cp (.k (.int .i64 0)))] [4,5,6]) (.seq (.seq (.reg [ oU 7 (.cp (.k (.int .i64 0)))] [4,5,6,7]) (.blk 0 (.loop (.seq (.seq (.reg [ oC 17 7,oC 18 5,oU 19 (.lenS (.v 18)),oU 20 (.ci .lss (.v 17) (.v 19))] [4,5,6,7,20]) (.cnd (.v 20) (.skip) (.exit 0))) (.seq (.blk 1 (.seq (.reg [ oC 23 5,oC 24 7,oU 25 (.ix (.v 23) (.v 24)),oU 26 (.cvI .i64 (.v 25)),oU 27 (.ari .sub .i64 (.v 26) (.k (.int .i64 48))),oC 8 27] [4,5,6,7,8]) (.seq (.seq (.reg [ oC 28 6,oC 29 8,oU 30 (.ari .add .i64 (.k (.int .i64 (-9223372036854775808))) (.v 29)),oU 31 (.ari .quo .i64 (.v 30) (.k (.int .i64 10))),oU 32 (.ci .lss (.v 28) (.v 31))] [4,5,6,7,8,32]) (.cnd (.v 32) (.seq (.reg [ oU 2 (.cp (.k (.int .i64 0))),oU 3 (.cp (.k (.bool false)))] [2,3]) (.ret)) (.skip))) (.reg [ oC 33 6,oU 34 (.ari .mul .i64 (.k (.int .i64 10)) (.v 33)),oC 35 8,oU 36 (.ari .sub .i64 (.v 34) (.v 35)),oC 6 36] [4,5,6,7])))) (.reg [ oC 21 7,oU 22 (.ari .add .i64 (.v 21) (.k (.int .i64 1))),oC 7 22] [4,5,6,7])))))) (.seq (.blk 2 (.seq (.reg [ oC 38 4,oC 37 38] [6,37]) (.cnd (.v 37) (.seq (.reg [ oC 39 6,oC 2 39,oU 3 (.cp (.k (.bool true)))] [2,3]) (.ret)) (.seq (.reg [ oC 41 6,oU 42 (.ci .eql (.v 41) (.k (.int .i64 (-9223372036854775808)))),oC 40 42] [6,40]) (.cnd (.v 40) (.seq (.reg [ oU 2 (.cp (.k (.int .i64 0))),oU 3 (.cp (.k (.bool false)))] [2,3]) (.ret)) (.skip)))))) (.seq (.reg [ oC 43 6,oU 44 (.ng .i64 (.v 43)),oC 2 44,oU 3 (.cp (.k (.bool true)))] [2,3]) (.ret)))))))
def rs223 : List RV := [.t 2, .t 3]
theorem chk223 : chkFn Tryz.prog Tryz.f223 1 pc223 rs223 = true := by kernel_rfl
theorem rule223 : Rl 223 1 pc223 rs223 := rlM Tryz.func223 chk223

/-- klippe/klipperef01.cut -/
def pc224 : PC := .seq (.reg [ oU 2 (.nil 3)] [0]) (.seq (.blk 0 (.loop (.seq (.seq (.reg [ oC 3 0,oU 4 (.len (.v 3)),oU 5 (.ci .gtr (.v 4) (.k (.int .i64 0))),oC 6 5,⟨some 7,.cp (.v 0),(some (6,true))⟩,⟨some 8,.cp (.v 0),(some (6,true))⟩,⟨some 9,.len (.v 8),(some (6,true))⟩,⟨some 10,.ari .sub .i64 (.v 9) (.k (.int .i64 1)),(some (6,true))⟩,⟨some 11,.ia 1 (.v 7) (.v 10),(some (6,true))⟩,⟨some 12,.ld false 1 (.v 11),(some (6,true))⟩,⟨some 13,.ci .eql (.v 12) (.k (.int .i64 0)),(some (6,true))⟩,oU 14 (.pick (.v 6) (.v 13) (.k (.bool false)))] [0,14]) (.cnd (.v 14) (.skip) (.exit 0))) (.blk 1 (.reg [ oC 15 0,oC 16 0,oU 17 (.len (.v 16)),oU 18 (.ari .sub .i64 (.v 17) (.k (.int .i64 1))),oU 19 (.slc 1 (.v 15) none (some (.v 18))),oC 0 19] [0]))))) (.seq (.reg [ oC 20 0,oC 2 20] [2]) (.ret)))
def rs224 : List RV := [.t 2]
theorem chk224 : chkFn Tryz.prog Tryz.f224 1 pc224 rs224 = true := by kernel_rfl
theorem rule224 : Rl 224 1 pc224 rs224 := rlM Tryz.func224 chk224

/-- klippe/klipperef01.carry -/
def pc225 : PC := .seq (.reg [ oU 2 (.nil 3)] [0]) (.seq (.reg [ oU 3 (.nil 3)] [0,3]) (.seq (.reg [ oU 4 (.cp (.k (.int .i64 0)))] [0,3,4]) (.seq (.seq (.reg [ oU 5 (.cp (.k (.int .i64 0)))] [0,3,4,5]) (.blk 0 (.loop (.seq (.seq (.reg [ oC 7 5,oC 8 0,oU 9 (.len (.v 8)),oU 10 (.ci .lss (.v 7) (.v 9)),oC 11 10,⟨some 12,.cp (.v 4),(some (11,false))⟩,⟨some 13,.ci .neq (.v 12) (.k (.int .i64 0)),(some (11,false))⟩,oU 14 (.pick (.v 11) (.k (.bool true)) (.v 13))] [0,3,4,5,14]) (.cnd (.v 14) (.skip) (.exit 0))) (.seq (.blk 1 (.seq (.seq (.reg [ oC 17 5,oC 18 0,oU 19 (.len (.v 18)),oU 20 (.ci .lss (.v 17) (.v 19))] [0,3,4,5,20]) (.cnd (.v 20) (.reg [ oC 21 4,oC 22 0,oC 23 5,oU 24 (.ia 1 (.v 22) (.v 23)),oU 25 (.ld false 1 (.v 24)),oU 26 (.ari .add .i64 (.v 21) (.v 25)),oC 4 26] [0,3,4,5]) (.skip))) (.seq (.reg [ oC 27 4,oU 28 (.ari .rem .i64 (.v 27) (.k (.int .i64 10000))),oC 6 28] [0,3,4,5,6]) (.seq (.seq (.reg [ oC 29 6,oU 30 (.ci .lss (.v 29) (.k (.int .i64 0)))] [0,3,4,5,6,30]) (.cnd (.v 30) (.reg [ oC 31 6,oU 32 (.ari .add .i64 (.v 31) (.k (.int .i64 10000))),oC 6 32] [0,3,4,5,6]) (.skip))) (.seq (.reg [ oU 33 (.tk 3),oC 34 6,oU 35 (.bldS 3 [.int .i64 0] 1 [(0,1,.v 34)]),oU 36 (.app 3 1 8 (.v 33) (.v 35)),oU 3 (.tk 36)] [0,3,4,5,6]) (.reg [ oC 37 4,oC 38 6,oU 39 (.ari .sub .i64 (.v 37) (.v 38)),oU 40 (.ari .quo .i64 (.v 39) (.k (.int .i64 10000))),oC 4 40] [0,3,4,5])))))) (.reg [ oC 15 5,oU 16 (.ari .add .i64 (.v 15) (.k (.int .i64 1))),oC 5 16] [0,3,4,5])))))) (.seq (.reg [ oU 41 (.tk 3),oU 42 (.call 224 [.v 41]),oU 2 (.tk 42)] [2]) (.ret)))))
def rs225 : List RV := [.t 2]
theorem chk225 : chkFn Tryz.prog Tryz.f225 1 pc225 rs225 = true := by kernel_rfl
theorem rule225 : Rl 225 1 pc225 rs225 := rlM Tryz.func225 chk225

/-- klippe/klipperef01.give -/
def pc226 : PC := .seq (.reg [ oU 2 (.cp (.k (.str [])))] [0]) (.seq (.seq (.reg [ oC 6 0,oU 7 (.len (.v 6)),oU 8 (.ci .eql (.v 7) (.k (.int .i64 0)))] [0,8]) (.cnd (.v 8) (.seq (.reg [ oU 2 (.cp (.k (.str [48])))] [2]) (.ret)) (.skip))) (.seq (.reg [ oC 9 0,oC 10 0,oU 11 (.len (.v 10)),oU 12 (.ari .sub .i64 (.v 11) (.k (.int .i64 1))),oU 13 (.ia 1 (.v 9) (.v 12)),oU 14 (.ld false 1 (.v 13)),oU 15 (.call 116 [.v 14]),oC 3 15] [0,3]) (.seq (.seq (.reg [ oC 16 0,oU 17 (.len (.v 16)),oU 18 (.ari .sub .i64 (.v 17) (.k (.int .i64 2))),oC 4 18] [0,3,4]) (.blk 0 (.loop (.seq (.seq (.reg [ oC 19 4,oU 20 (.ci .geq (.v 19) (.k (.int .i64 0)))] [0,3,4,20]) (.cnd (.v 20) (.skip) (.exit 0))) (.seq (.blk 1 (.seq (.reg [ oC 23 0,oC 24 4,oU 25 (.ia 1 (.v 23) (.v 24)),oU 26 (.ld false 1 (.v 25)),oU 27 (.ari .add .i64 (.k (.int .i64 10000)) (.v 26)),oU 28 (.call 116 [.v 27]),oC 5 28] [0,3,4,5]) (.reg [ oC 29 3,oC 30 5,oU 31 (.slS (.v 30) (some (.k (.int .i64 1))) none),oU 32 (.cat (.v 29) (.v 31)),oC 3 32] [0,3,4]))) (.reg [ oC 21 4,oU 22 (.ari .sub .i64 (.v 21) (.k (.int .i64 1))),oC 4 22] [0,3,4])))))) (.seq (.reg [ oC 33 3,oC 2 33] [2]) (.ret)))))
def rs226 : List RV := [.t 2]
theorem chk226 : chkFn Tryz.prog Tryz.f226 1 pc226 rs226 = true := by kernel_rfl
theorem rule226 : Rl 226 1 pc226 rs226 := rlM Tryz.func226 chk226

def tabL : List (Nat × PC × List RV × Nat) := [(9, pc9, rs9, 2), (11, pc11, rs11, 0), (12, pc12, rs12, 2), (14, pc14, rs14, 2), (18, pc18, rs18, 1), (19, pc19, rs19, 1), (21, pc21, rs21, 2), (26, pc26, rs26, 2), (27, pc27, rs27, 2), (29, pc29, rs29, 2), (30, pc30, rs30, 1), (37, pc37, rs37, 1), (38, pc38, rs38, 1), (39, pc39, rs39, 2), (40, pc40, rs40, 3), (42, pc42, rs42, 1), (44, pc44, rs44, 2), (46, pc46, rs46, 4), (47, pc47, rs47, 2), (48, pc48, rs48, 1), (49, pc49, rs49, 1), (50, pc50, rs50, 1), (52, pc52, rs52, 3), (55, pc55, rs55, 2), (56, pc56, rs56, 2), (57, pc57, rs57, 1), (58, pc58, rs58, 1), (59, pc59, rs59, 2), (60, pc60, rs60, 2), (61, pc61, rs61, 3), (62, pc62, rs62, 3), (63, pc63, rs63, 2), (64, pc64, rs64, 2), (65, pc65, rs65, 2), (66, pc66, rs66, 1), (70, pc70, rs70, 2), (76, pc76, rs76, 2), (78, pc78, rs78, 1), (79, pc79, rs79, 1), (80, pc80, rs80, 2), (81, pc81, rs81, 1), (82, pc82, rs82, 2), (83, pc83, rs83, 1), (84, pc84, rs84, 1), (85, pc85, rs85, 2), (86, pc86, rs86, 3), (93, pc93, rs93, 2), (94, pc94, rs94, 1), (95, pc95, rs95, 2), (96, pc96, rs96, 4), (97, pc97, rs97, 3), (98, pc98, rs98, 2), (99, pc99, rs99, 2), (100, pc100, rs100, 1), (101, pc101, rs101, 2), (107, pc107, rs107, 1), (108, pc108, rs108, 1), (109, pc109, rs109, 2), (111, pc111, rs111, 2), (112, pc112, rs112, 1), (113, pc113, rs113, 2), (115, pc115, rs115, 3), (117, pc117, rs117, 1), (118, pc118, rs118, 2), (119, pc119, rs119, 2), (120, pc120, rs120, 2), (121, pc121, rs121, 2), (122, pc122, rs122, 2), (126, pc126, rs126, 1), (127, pc127, rs127, 1), (128, pc128, rs128, 2), (129, pc129, rs129, 1), (131, pc131, rs131, 1), (132, pc132, rs132, 4), (133, pc133, rs133, 1), (134, pc134, rs134, 1), (135, pc135, rs135, 1), (137, pc137, rs137, 2), (138, pc138, rs138, 2), (140, pc140, rs140, 1), (147, pc147, rs147, 2), (148, pc148, rs148, 2), (152, pc152, rs152, 1), (155, pc155, rs155, 2), (169, pc169, rs169, 1), (170, pc170, rs170, 2), (171, pc171, rs171, 1), (174, pc174, rs174, 1), (176, pc176, rs176, 2), (177, pc177, rs177, 2), (178, pc178, rs178, 2), (179, pc179, rs179, 1), (189, pc189, rs189, 2), (190, pc190, rs190, 2), (194, pc194, rs194, 1), (197, pc197, rs197, 1), (198, pc198, rs198, 4), (199, pc199, rs199, 2), (200, pc200, rs200, 2), (214, pc214, rs214, 2), (223, pc223, rs223, 1), (224, pc224, rs224, 1), (225, pc225, rs225, 1), (226, pc226, rs226, 1)]
def tabFn (f : Nat) : Option (PC × List RV × Nat) := (tabL.find? (fun e => e.1 == f)).map (·.2)
theorem tabL_ok : ∀ e ∈ tabL, ∃ fn, Tryz.prog.funcs[e.1]? = some fn ∧ chkFn Tryz.prog fn e.2.2.2 e.2.1 e.2.2.1 = true := by
  intro e he
  simp only [tabL, List.mem_cons, List.not_mem_nil, or_false] at he
  rcases he with rfl | rfl | rfl | rfl | rfl | rfl | rfl | rfl | rfl | rfl | rfl | rfl | rfl | rfl | rfl | rfl | rfl | rfl | rfl | rfl | rfl | rfl | rfl | rfl | rfl | rfl | rfl | rfl | rfl | rfl | rfl | rfl | rfl | rfl | rfl | rfl | rfl | rfl | rfl | rfl | rfl | rfl | rfl | rfl | rfl | rfl | rfl | rfl | rfl | rfl | rfl | rfl | rfl | rfl | rfl | rfl | rfl | rfl | rfl | rfl | rfl | rfl | rfl | rfl | rfl | rfl | rfl | rfl | rfl | rfl | rfl | rfl | rfl | rfl | rfl | rfl | rfl | rfl | rfl | rfl | rfl | rfl | rfl | rfl | rfl | rfl | rfl | rfl | rfl | rfl | rfl | rfl | rfl | rfl | rfl | rfl | rfl | rfl | rfl | rfl | rfl | rfl | rfl | rfl
  · exact ⟨_, Tryz.func9, chk9⟩
  · exact ⟨_, Tryz.func11, chk11⟩
  · exact ⟨_, Tryz.func12, chk12⟩
  · exact ⟨_, Tryz.func14, chk14⟩
  · exact ⟨_, Tryz.func18, chk18⟩
  · exact ⟨_, Tryz.func19, chk19⟩
  · exact ⟨_, Tryz.func21, chk21⟩
  · exact ⟨_, Tryz.func26, chk26⟩
  · exact ⟨_, Tryz.func27, chk27⟩
  · exact ⟨_, Tryz.func29, chk29⟩
  · exact ⟨_, Tryz.func30, chk30⟩
  · exact ⟨_, Tryz.func37, chk37⟩
  · exact ⟨_, Tryz.func38, chk38⟩
  · exact ⟨_, Tryz.func39, chk39⟩
  · exact ⟨_, Tryz.func40, chk40⟩
  · exact ⟨_, Tryz.func42, chk42⟩
  · exact ⟨_, Tryz.func44, chk44⟩
  · exact ⟨_, Tryz.func46, chk46⟩
  · exact ⟨_, Tryz.func47, chk47⟩
  · exact ⟨_, Tryz.func48, chk48⟩
  · exact ⟨_, Tryz.func49, chk49⟩
  · exact ⟨_, Tryz.func50, chk50⟩
  · exact ⟨_, Tryz.func52, chk52⟩
  · exact ⟨_, Tryz.func55, chk55⟩
  · exact ⟨_, Tryz.func56, chk56⟩
  · exact ⟨_, Tryz.func57, chk57⟩
  · exact ⟨_, Tryz.func58, chk58⟩
  · exact ⟨_, Tryz.func59, chk59⟩
  · exact ⟨_, Tryz.func60, chk60⟩
  · exact ⟨_, Tryz.func61, chk61⟩
  · exact ⟨_, Tryz.func62, chk62⟩
  · exact ⟨_, Tryz.func63, chk63⟩
  · exact ⟨_, Tryz.func64, chk64⟩
  · exact ⟨_, Tryz.func65, chk65⟩
  · exact ⟨_, Tryz.func66, chk66⟩
  · exact ⟨_, Tryz.func70, chk70⟩
  · exact ⟨_, Tryz.func76, chk76⟩
  · exact ⟨_, Tryz.func78, chk78⟩
  · exact ⟨_, Tryz.func79, chk79⟩
  · exact ⟨_, Tryz.func80, chk80⟩
  · exact ⟨_, Tryz.func81, chk81⟩
  · exact ⟨_, Tryz.func82, chk82⟩
  · exact ⟨_, Tryz.func83, chk83⟩
  · exact ⟨_, Tryz.func84, chk84⟩
  · exact ⟨_, Tryz.func85, chk85⟩
  · exact ⟨_, Tryz.func86, chk86⟩
  · exact ⟨_, Tryz.func93, chk93⟩
  · exact ⟨_, Tryz.func94, chk94⟩
  · exact ⟨_, Tryz.func95, chk95⟩
  · exact ⟨_, Tryz.func96, chk96⟩
  · exact ⟨_, Tryz.func97, chk97⟩
  · exact ⟨_, Tryz.func98, chk98⟩
  · exact ⟨_, Tryz.func99, chk99⟩
  · exact ⟨_, Tryz.func100, chk100⟩
  · exact ⟨_, Tryz.func101, chk101⟩
  · exact ⟨_, Tryz.func107, chk107⟩
  · exact ⟨_, Tryz.func108, chk108⟩
  · exact ⟨_, Tryz.func109, chk109⟩
  · exact ⟨_, Tryz.func111, chk111⟩
  · exact ⟨_, Tryz.func112, chk112⟩
  · exact ⟨_, Tryz.func113, chk113⟩
  · exact ⟨_, Tryz.func115, chk115⟩
  · exact ⟨_, Tryz.func117, chk117⟩
  · exact ⟨_, Tryz.func118, chk118⟩
  · exact ⟨_, Tryz.func119, chk119⟩
  · exact ⟨_, Tryz.func120, chk120⟩
  · exact ⟨_, Tryz.func121, chk121⟩
  · exact ⟨_, Tryz.func122, chk122⟩
  · exact ⟨_, Tryz.func126, chk126⟩
  · exact ⟨_, Tryz.func127, chk127⟩
  · exact ⟨_, Tryz.func128, chk128⟩
  · exact ⟨_, Tryz.func129, chk129⟩
  · exact ⟨_, Tryz.func131, chk131⟩
  · exact ⟨_, Tryz.func132, chk132⟩
  · exact ⟨_, Tryz.func133, chk133⟩
  · exact ⟨_, Tryz.func134, chk134⟩
  · exact ⟨_, Tryz.func135, chk135⟩
  · exact ⟨_, Tryz.func137, chk137⟩
  · exact ⟨_, Tryz.func138, chk138⟩
  · exact ⟨_, Tryz.func140, chk140⟩
  · exact ⟨_, Tryz.func147, chk147⟩
  · exact ⟨_, Tryz.func148, chk148⟩
  · exact ⟨_, Tryz.func152, chk152⟩
  · exact ⟨_, Tryz.func155, chk155⟩
  · exact ⟨_, Tryz.func169, chk169⟩
  · exact ⟨_, Tryz.func170, chk170⟩
  · exact ⟨_, Tryz.func171, chk171⟩
  · exact ⟨_, Tryz.func174, chk174⟩
  · exact ⟨_, Tryz.func176, chk176⟩
  · exact ⟨_, Tryz.func177, chk177⟩
  · exact ⟨_, Tryz.func178, chk178⟩
  · exact ⟨_, Tryz.func179, chk179⟩
  · exact ⟨_, Tryz.func189, chk189⟩
  · exact ⟨_, Tryz.func190, chk190⟩
  · exact ⟨_, Tryz.func194, chk194⟩
  · exact ⟨_, Tryz.func197, chk197⟩
  · exact ⟨_, Tryz.func198, chk198⟩
  · exact ⟨_, Tryz.func199, chk199⟩
  · exact ⟨_, Tryz.func200, chk200⟩
  · exact ⟨_, Tryz.func214, chk214⟩
  · exact ⟨_, Tryz.func223, chk223⟩
  · exact ⟨_, Tryz.func224, chk224⟩
  · exact ⟨_, Tryz.func225, chk225⟩
  · exact ⟨_, Tryz.func226, chk226⟩
theorem tabFn_ok (f : Nat) (pc : PC) (rs : List RV) (np : Nat) (h : tabFn f = some (pc, rs, np)) : ∃ fn, Tryz.prog.funcs[f]? = some fn ∧ chkFn Tryz.prog fn np pc rs = true := by
  unfold tabFn at h
  rw [Option.map_eq_some_iff] at h
  obtain ⟨e, h1, h2⟩ := h
  have h3 := List.find?_some h1
  simp only [beq_iff_eq] at h3
  obtain ⟨fn, h4, h5⟩ := tabL_ok e (List.mem_of_find?_eq_some h1)
  rw [h2] at h5
  exact ⟨fn, by rw [← h3]; exact h4, h5⟩

end Go.Proofs
