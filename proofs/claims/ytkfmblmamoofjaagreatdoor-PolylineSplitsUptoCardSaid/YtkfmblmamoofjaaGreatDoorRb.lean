/- The pure readings of functions of this seat, printed by program (pcfile.py). Own work. -/
import Derived.Test.YtkfmblmamoofjaaGreatDoorProg
import Derived.Test.YtkfmblmamoofjaaGreatDoorRa
import Derived.Test.YtkfmblmamoofjaaGreatDoorPj
import Derived.KernelRfl
namespace Go.Proofs
open Go Go.Pi Go.RowKit
set_option maxRecDepth 100000
set_option linter.unusedVariables false
set_option linter.unusedSimpArgs false
/-- klippe/rational.Parts -/
def pc58 : PC := .seq (.reg [ oU 2 (.cp (.k (.str []))),oU 3 (.cp (.k (.str [])))] [0]) (.seq (.reg [ oC 8 0,oU 9 (.call 53 [.v 8,.k (.str [47])]),oC 7 9,oU 10 (.ext 7 0),oU 11 (.ext 7 1),oU 12 (.ext 7 2),oC 4 10,oC 5 11,oC 6 12] [4,5,6]) (.seq (.seq (.reg [ oC 13 6,oU 14 (.not (.v 13))] [4,5,14]) (.cnd (.v 14) (.seq (.reg [ oC 15 4,oC 2 15,oU 3 (.cp (.k (.str [49])))] [2,3]) (.ret)) (.skip))) (.seq (.reg [ oC 16 4,oC 17 5,oC 2 16,oC 3 17] [2,3]) (.ret))))
def rs58 : List RV := [.t 2, .t 3]
theorem chk58 : chkFn Tryz.prog Tryz.f58 1 pc58 rs58 = true := by kernel_rfl
theorem rule58 : Rl 58 1 pc58 rs58 := rlM Tryz.func58 chk58

/-- klippe/integer.Mul -/
def pc59 : PC := .seq (.reg [ oU 4 (.cp (.k (.str [])))] [0,1]) (.seq (.seq (.reg [ oC 12 0,oU 13 (.call 84 [.v 12,.k (.int .i64 9)]),oC 11 13,oU 14 (.ext 11 0),oU 15 (.ext 11 1),oC 5 14,oC 6 15] [0,1,5,6]) (.seq (.reg [ oC 16 6] [0,1,5,16]) (.cnd (.v 16) (.seq (.reg [ oC 18 1,oU 19 (.call 84 [.v 18,.k (.int .i64 9)]),oC 17 19,oU 20 (.ext 17 0),oU 21 (.ext 17 1),oC 7 20,oC 8 21] [0,1,5,7,8]) (.seq (.reg [ oC 22 8] [0,1,5,7,22]) (.cnd (.v 22) (.seq (.reg [ oC 23 5,oC 24 7,oU 25 (.ari .mul .i64 (.v 23) (.v 24)),oU 26 (.call 39 [.v 25]),oC 4 26] [4]) (.ret)) (.skip)))) (.skip)))) (.seq (.reg [ oC 27 0,oU 28 (.call 85 [.v 27]),oC 29 1,oU 30 (.call 85 [.v 29]),oU 9 (.alloc [.bool false,.sl 0 []]),oU 10 (.alloc [.bool false,.sl 0 []]),⟨none,.st 2 (.v 9) (.v 28),none⟩,⟨none,.st 2 (.v 10) (.v 30),none⟩] [9,10]) (.seq (.reg [ oU 31 (.fa 0 (.v 9)),oU 32 (.ld false 1 (.o 31 9)),oU 33 (.fa 0 (.v 10)),oU 34 (.ld false 1 (.o 33 10)),oU 35 (.eqb true (.v 32) (.v 34)),oU 36 (.fa 1 (.v 9)),oU 37 (.ld false 1 (.o 36 9)),oU 38 (.fa 1 (.v 10)),oU 39 (.ld false 1 (.o 38 10)),oU 40 (.call 88 [.v 37,.v 39]),oU 41 (.bld [.bool false,.sl 0 []] [(0,1,.v 35),(1,1,.v 40)]),oU 42 (.call 87 [.v 41]),oC 4 42] [4]) (.ret))))
def rs59 : List RV := [.t 4]
theorem chk59 : chkFn Tryz.prog Tryz.f59 2 pc59 rs59 = true := by kernel_rfl
theorem rule59 : Rl 59 2 pc59 rs59 := rlM Tryz.func59 chk59

/-- klippe/integer.Sign -/
def pc60 : PC := .seq (.reg [ oU 2 (.cp (.k (.int .i64 0)))] [0]) (.seq (.blk 0 (.seq (.reg [ oC 4 0,oU 5 (.sc .eql (.v 4) (.k (.str [48]))),oC 3 5] [0,3]) (.cnd (.v 3) (.seq (.reg [ oU 2 (.cp (.k (.int .i64 0)))] [2]) (.ret)) (.seq (.reg [ oC 7 0,oU 8 (.call 89 [.v 7,.k (.str [45])]),oC 6 8] [6]) (.cnd (.v 6) (.seq (.reg [ oU 2 (.cp (.k (.int .i64 (-1))))] [2]) (.ret)) (.skip)))))) (.seq (.reg [ oU 2 (.cp (.k (.int .i64 1)))] [2]) (.ret)))
def rs60 : List RV := [.t 2]
theorem chk60 : chkFn Tryz.prog Tryz.f60 1 pc60 rs60 = true := by kernel_rfl
theorem rule60 : Rl 60 1 pc60 rs60 := rlM Tryz.func60 chk60

/-- klippe/rational.lowest -/
def pc61 : PC := .seq (.reg [ oU 4 (.cp (.k (.str [])))] [0,1]) (.seq (.seq (.reg [ oC 6 1,oU 7 (.call 60 [.v 6]),oU 8 (.ci .lss (.v 7) (.k (.int .i64 0)))] [0,1,8]) (.cnd (.v 8) (.reg [ oC 9 0,oU 10 (.call 64 [.v 9]),oC 11 1,oU 12 (.call 64 [.v 11]),oC 0 10,oC 1 12] [0,1]) (.skip))) (.seq (.seq (.reg [ oC 13 0,oC 14 1,oU 15 (.call 56 [.v 13,.v 14]),oC 5 15] [0,1,5]) (.seq (.reg [ oC 16 5,oU 17 (.sc .neq (.v 16) (.k (.str [49])))] [0,1,5,17]) (.cnd (.v 17) (.seq (.reg [ oC 19 0,oC 20 5,oU 21 (.call 90 [.v 19,.v 20]),oC 18 21,oU 22 (.ext 18 0),oU 23 (.ext 18 1),oU 24 (.ext 18 2),oC 0 22] [0,1,5]) (.reg [ oC 26 1,oC 27 5,oU 28 (.call 90 [.v 26,.v 27]),oC 25 28,oU 29 (.ext 25 0),oU 30 (.ext 25 1),oU 31 (.ext 25 2),oC 1 29] [0,1])) (.skip)))) (.seq (.reg [ oC 32 0,oC 33 1,oU 34 (.call 65 [.v 32,.v 33]),oC 4 34] [4]) (.ret))))
def rs61 : List RV := [.t 4]
theorem chk61 : chkFn Tryz.prog Tryz.f61 2 pc61 rs61 = true := by kernel_rfl
theorem rule61 : Rl 61 2 pc61 rs61 := rlM Tryz.func61 chk61

/-- klippe/klipperef02.Right -/
def pc63 : PC := .seq (.reg [ oU 2 (.cp (.k (.bool false)))] [0]) (.seq (.reg [ oC 6 0,oU 7 (.call 92 [.v 6]),oC 5 7,oU 8 (.ext 5 0),oU 9 (.ext 5 1),oC 3 8,oC 4 9] [0,3,4]) (.seq (.seq (.reg [ oC 10 3,oU 11 (.call 93 [.v 10]),oU 12 (.not (.v 11)),oC 13 12,⟨some 14,.cp (.v 4),(some (13,false))⟩,⟨some 15,.call 93 [.v 14],(some (13,false))⟩,⟨some 16,.not (.v 15),(some (13,false))⟩,oU 17 (.pick (.v 13) (.k (.bool true)) (.v 16))] [0,3,4,17]) (.cnd (.v 17) (.seq (.reg [ oU 2 (.cp (.k (.bool false)))] [2]) (.ret)) (.skip))) (.seq (.seq (.reg [ oC 18 0,oU 19 (.call 94 [.v 18,.k (.int .u8 47)]),oU 20 (.ci .lss (.v 19) (.k (.int .i64 0)))] [3,4,20]) (.cnd (.v 20) (.seq (.reg [ oU 2 (.cp (.k (.bool true)))] [2]) (.ret)) (.skip))) (.seq (.reg [ oC 21 4,oU 22 (.call 95 [.v 21,.k (.str [49])]),oU 23 (.ci .gtr (.v 22) (.k (.int .i64 0))),oC 24 23,⟨some 25,.cp (.v 3),(some (24,true))⟩,⟨some 26,.sc .neq (.v 25) (.k (.str [48])),(some (24,true))⟩,oU 27 (.pick (.v 24) (.v 26) (.k (.bool false))),oC 28 27,⟨some 29,.cp (.v 3),(some (28,true))⟩,⟨some 30,.cp (.v 4),(some (28,true))⟩,⟨some 31,.call 96 [.v 29,.v 30],(some (28,true))⟩,⟨some 32,.sc .eql (.v 31) (.k (.str [49])),(some (28,true))⟩,oU 33 (.pick (.v 28) (.v 32) (.k (.bool false))),oC 2 33] [2]) (.ret)))))
def rs63 : List RV := [.t 2]
theorem chk63 : chkFn Tryz.prog Tryz.f63 1 pc63 rs63 = true := by kernel_rfl
theorem rule63 : Rl 63 1 pc63 rs63 := rlM Tryz.func63 chk63

/-- klippe/integer.Neg -/
def pc64 : PC := .seq (.reg [ oU 2 (.cp (.k (.str [])))] [0]) (.seq (.seq (.reg [ oC 3 0,oU 4 (.call 60 [.v 3])] [0,4]) (.blk 0 (.seq (.reg [ oU 6 (.ci .eql (.v 4) (.k (.int .i64 1))),oC 5 6] [0,4,5]) (.cnd (.v 5) (.seq (.reg [ oC 7 0,oU 8 (.cat (.k (.str [45])) (.v 7)),oC 2 8] [2]) (.ret)) (.seq (.reg [ oU 10 (.ci .eql (.v 4) (.k (.int .i64 (-1)))),oC 9 10] [0,9]) (.cnd (.v 9) (.seq (.reg [ oC 11 0,oU 12 (.slS (.v 11) (some (.k (.int .i64 1))) none),oC 2 12] [2]) (.ret)) (.skip))))))) (.seq (.reg [ oC 13 0,oC 2 13] [2]) (.ret)))
def rs64 : List RV := [.t 2]
theorem chk64 : chkFn Tryz.prog Tryz.f64 1 pc64 rs64 = true := by kernel_rfl
theorem rule64 : Rl 64 1 pc64 rs64 := rlM Tryz.func64 chk64

/-- klippe/rational.join -/
def pc65 : PC := .seq (.reg [ oU 4 (.cp (.k (.str [])))] [0,1]) (.seq (.seq (.reg [ oC 5 1,oU 6 (.sc .eql (.v 5) (.k (.str [49])))] [0,1,6]) (.cnd (.v 6) (.seq (.reg [ oC 7 0,oC 4 7] [4]) (.ret)) (.skip))) (.seq (.reg [ oC 8 0,oU 9 (.cat (.v 8) (.k (.str [47]))),oC 10 1,oU 11 (.cat (.v 9) (.v 10)),oC 4 11] [4]) (.ret)))
def rs65 : List RV := [.t 4]
theorem chk65 : chkFn Tryz.prog Tryz.f65 2 pc65 rs65 = true := by kernel_rfl
theorem rule65 : Rl 65 2 pc65 rs65 := rlM Tryz.func65 chk65

/-- klippe/rational.Neg -/
def pc66 : PC := .seq (.reg [ oU 2 (.cp (.k (.str [])))] [0]) (.seq (.seq (.reg [ oC 3 0,oU 4 (.sc .eql (.v 3) (.k (.str [48])))] [0,4]) (.cnd (.v 4) (.seq (.reg [ oC 5 0,oC 2 5] [2]) (.ret)) (.skip))) (.seq (.seq (.reg [ oC 6 0,oU 7 (.ix (.v 6) (.k (.int .i64 0))),oU 8 (.ci .eql (.v 7) (.k (.int .u8 45)))] [0,8]) (.cnd (.v 8) (.seq (.reg [ oC 9 0,oU 10 (.slS (.v 9) (some (.k (.int .i64 1))) none),oC 2 10] [2]) (.ret)) (.skip))) (.seq (.reg [ oC 11 0,oU 12 (.cat (.k (.str [45])) (.v 11)),oC 2 12] [2]) (.ret))))
def rs66 : List RV := [.t 2]
theorem chk66 : chkFn Tryz.prog Tryz.f66 1 pc66 rs66 = true := by kernel_rfl
theorem rule66 : Rl 66 1 pc66 rs66 := rlM Tryz.func66 chk66

/-- klippe/rational.small -/
def pc67 : PC := .seq (.reg [ oU 4 (.cp (.k (.str [])))] [0,1]) (.seq (.reg [ oC 7 0,oC 8 1,oC 5 7,oC 6 8] [0,1,5,6]) (.seq (.blk 0 (.loop (.seq (.seq (.reg [ oC 9 6,oU 10 (.ci .neq (.v 9) (.k (.int .i64 0)))] [0,1,5,6,10]) (.cnd (.v 10) (.skip) (.exit 0))) (.blk 1 (.reg [ oC 11 6,oC 12 5,oC 13 6,oU 14 (.ari .rem .i64 (.v 12) (.v 13)),oC 5 11,oC 6 14] [0,1,5,6]))))) (.seq (.seq (.reg [ oC 15 5,oU 16 (.ci .lss (.v 15) (.k (.int .i64 0)))] [0,1,5,16]) (.cnd (.v 16) (.reg [ oC 17 5,oU 18 (.ng .i64 (.v 17)),oC 5 18] [0,1,5]) (.skip))) (.seq (.reg [ oC 19 0,oC 20 5,oU 21 (.ari .quo .i64 (.v 19) (.v 20)),oC 22 1,oC 23 5,oU 24 (.ari .quo .i64 (.v 22) (.v 23)),oC 0 21,oC 1 24] [0,1]) (.seq (.seq (.reg [ oC 25 1,oU 26 (.ci .eql (.v 25) (.k (.int .i64 1)))] [0,1,26]) (.cnd (.v 26) (.seq (.reg [ oC 27 0,oU 28 (.call 62 [.v 27]),oC 4 28] [4]) (.ret)) (.skip))) (.seq (.reg [ oC 29 0,oU 30 (.call 62 [.v 29]),oU 31 (.cat (.v 30) (.k (.str [47]))),oC 32 1,oU 33 (.call 62 [.v 32]),oU 34 (.cat (.v 31) (.v 33)),oC 4 34] [4]) (.ret)))))))
def rs67 : List RV := [.t 4]
theorem chk67 : chkFn Tryz.prog Tryz.f67 2 pc67 rs67 = true := by kernel_rfl
theorem rule67 : Rl 67 2 pc67 rs67 := rlM Tryz.func67 chk67

/-- klippe/integer.Add -/
def pc68 : PC := .seq (.reg [ oU 4 (.cp (.k (.str [])))] [0,1]) (.seq (.seq (.reg [ oC 12 0,oU 13 (.call 84 [.v 12,.k (.int .i64 18)]),oC 11 13,oU 14 (.ext 11 0),oU 15 (.ext 11 1),oC 5 14,oC 6 15] [0,1,5,6]) (.seq (.reg [ oC 16 6] [0,1,5,16]) (.cnd (.v 16) (.seq (.reg [ oC 18 1,oU 19 (.call 84 [.v 18,.k (.int .i64 18)]),oC 17 19,oU 20 (.ext 17 0),oU 21 (.ext 17 1),oC 7 20,oC 8 21] [0,1,5,7,8]) (.seq (.reg [ oC 22 8] [0,1,5,7,22]) (.cnd (.v 22) (.seq (.reg [ oC 23 5,oC 24 7,oU 25 (.ari .add .i64 (.v 23) (.v 24)),oU 26 (.call 39 [.v 25]),oC 4 26] [4]) (.ret)) (.skip)))) (.skip)))) (.seq (.reg [ oC 27 0,oU 28 (.call 85 [.v 27]),oC 29 1,oU 30 (.call 85 [.v 29]),oU 9 (.alloc [.bool false,.sl 0 []]),oU 10 (.alloc [.bool false,.sl 0 []]),⟨none,.st 2 (.v 9) (.v 28),none⟩,⟨none,.st 2 (.v 10) (.v 30),none⟩] [9,10]) (.seq (.seq (.reg [ oU 31 (.fa 0 (.v 9)),oU 32 (.ld false 1 (.o 31 9)),oU 33 (.fa 0 (.v 10)),oU 34 (.ld false 1 (.o 33 10)),oU 35 (.eqb false (.v 32) (.v 34))] [9,10,35]) (.cnd (.v 35) (.seq (.reg [ oU 36 (.fa 0 (.v 9)),oU 37 (.ld false 1 (.o 36 9)),oU 38 (.fa 1 (.v 9)),oU 39 (.ld false 1 (.o 38 9)),oU 40 (.fa 1 (.v 10)),oU 41 (.ld false 1 (.o 40 10)),oU 42 (.call 97 [.v 39,.v 41]),oU 43 (.bld [.bool false,.sl 0 []] [(0,1,.v 37),(1,1,.v 42)]),oU 44 (.call 87 [.v 43]),oC 4 44] [4]) (.ret)) (.skip))) (.seq (.seq (.reg [ oU 45 (.fa 1 (.v 9)),oU 46 (.ld false 1 (.o 45 9)),oU 47 (.fa 1 (.v 10)),oU 48 (.ld false 1 (.o 47 10)),oU 49 (.call 98 [.v 46,.v 48]),oU 50 (.ci .lss (.v 49) (.k (.int .i64 0)))] [9,10,50]) (.cnd (.v 50) (.reg [ oU 51 (.ld true 2 (.v 10)),oU 52 (.ld true 2 (.v 9)),⟨none,.st 2 (.v 9) (.v 51),none⟩,⟨none,.st 2 (.v 10) (.v 52),none⟩] [9,10]) (.skip))) (.seq (.reg [ oU 53 (.fa 0 (.v 9)),oU 54 (.ld false 1 (.o 53 9)),oU 55 (.fa 1 (.v 9)),oU 56 (.ld false 1 (.o 55 9)),oU 57 (.fa 1 (.v 10)),oU 58 (.ld false 1 (.o 57 10)),oU 59 (.call 99 [.v 56,.v 58]),oU 60 (.bld [.bool false,.sl 0 []] [(0,1,.v 54),(1,1,.v 59)]),oU 61 (.call 87 [.v 60]),oC 4 61] [4]) (.ret))))))
def rs68 : List RV := [.t 4]
theorem chk68 : chkFn Tryz.prog Tryz.f68 2 pc68 rs68 = true := by kernel_rfl
theorem rule68 : Rl 68 2 pc68 rs68 := rlM Tryz.func68 chk68

/-- klippe/polyline.crossed -/
def pc79 : PC := .seq (.reg [ oU 8 (.cp (.k (.bool false)))] [0,1,2,3]) (.seq (.reg [ oC 13 0,oU 14 (.len (.v 13)),oC 9 14] [0,1,2,3,9]) (.seq (.reg [ oC 16 0,oC 17 2,oU 18 (.ia 2 (.v 16) (.v 17)),oU 19 (.ld true 2 (.v 18)),oC 20 0,oC 21 2,oU 22 (.ari .add .i64 (.v 21) (.k (.int .i64 1))),oC 23 9,oU 24 (.ari .rem .i64 (.v 22) (.v 23)),oU 25 (.ia 2 (.v 20) (.v 24)),oU 26 (.ld true 2 (.v 25)),oC 27 0,oC 28 3,oU 29 (.ia 2 (.v 27) (.v 28)),oU 30 (.ld true 2 (.v 29)),oC 31 0,oC 32 3,oU 33 (.ari .add .i64 (.v 32) (.k (.int .i64 1))),oC 34 9,oU 35 (.ari .rem .i64 (.v 33) (.v 34)),oU 36 (.ia 2 (.v 31) (.v 35)),oU 37 (.ld true 2 (.v 36)),oU 38 (.call 26 [.v 19,.v 26,.v 30,.v 37]),oC 15 38,oU 39 (.ext 15 0),oU 40 (.ext 15 1),oU 11 (.alloc [.str [],.str []]),oC 10 39,⟨none,.st 2 (.v 11) (.v 40),none⟩] [0,1,2,3,9,10,11]) (.seq (.reg [ oC 41 3,oC 42 2,oU 43 (.ari .add .i64 (.v 42) (.k (.int .i64 1))),oU 44 (.ci .eql (.v 41) (.v 43)),oC 45 44,⟨some 46,.cp (.v 1),(some (45,false))⟩,⟨some 47,.cp (.v 9),(some (45,false))⟩,⟨some 48,.ci .eql (.v 46) (.v 47),(some (45,false))⟩,⟨some 49,.cp (.v 48),(some (45,false))⟩,⟨some 50,.cp (.v 2),(some (49,true))⟩,⟨some 51,.ci .eql (.v 50) (.k (.int .i64 0)),(some (49,true))⟩,⟨some 52,.pick (.v 49) (.v 51) (.k (.bool false)),(some (45,false))⟩,⟨some 53,.cp (.v 52),(some (45,false))⟩,⟨some 54,.cp (.v 3),(some (53,true))⟩,⟨some 55,.cp (.v 9),(some (53,true))⟩,⟨some 56,.ari .sub .i64 (.v 55) (.k (.int .i64 1)),(some (53,true))⟩,⟨some 57,.ci .eql (.v 54) (.v 56),(some (53,true))⟩,⟨some 58,.pick (.v 53) (.v 57) (.k (.bool false)),(some (45,false))⟩,oU 59 (.pick (.v 45) (.k (.bool true)) (.v 58)),oC 12 59] [0,2,3,9,10,11,12]) (.seq (.blk 0 (.seq (.reg [ oC 61 10,oU 62 (.ci .eql (.v 61) (.k (.int .i64 0))),oC 60 62] [0,2,3,9,10,11,12,60]) (.cnd (.v 60) (.seq (.reg [ oU 8 (.cp (.k (.bool false)))] [8]) (.ret)) (.seq (.reg [ oC 64 10,oU 65 (.ci .eql (.v 64) (.k (.int .i64 2))),oC 66 65,⟨some 67,.cp (.v 12),(some (66,false))⟩,⟨some 68,.not (.v 67),(some (66,false))⟩,oU 69 (.pick (.v 66) (.k (.bool true)) (.v 68)),oC 63 69] [0,2,3,9,11,63]) (.cnd (.v 63) (.seq (.reg [ oU 8 (.cp (.k (.bool true)))] [8]) (.ret)) (.seq (.reg [ oC 71 3,oC 72 2,oU 73 (.ari .add .i64 (.v 72) (.k (.int .i64 1))),oU 74 (.ci .eql (.v 71) (.v 73)),oC 75 74,⟨some 76,.ld true 2 (.v 11),(some (75,true))⟩,⟨some 77,.cp (.v 0),(some (75,true))⟩,⟨some 78,.cp (.v 3),(some (75,true))⟩,⟨some 79,.ia 2 (.v 77) (.v 78),(some (75,true))⟩,⟨some 80,.ld true 2 (.v 79),(some (75,true))⟩,⟨some 81,.eq false [2,2] (.v 76) (.v 80),(some (75,true))⟩,oU 82 (.pick (.v 75) (.v 81) (.k (.bool false))),oC 70 82] [0,2,3,9,11,70]) (.cnd (.v 70) (.seq (.reg [ oU 8 (.cp (.k (.bool false)))] [8]) (.ret)) (.skip)))))))) (.seq (.reg [ oU 83 (.ld true 2 (.v 11)),oC 84 0,oC 85 2,oU 86 (.ia 2 (.v 84) (.v 85)),oU 87 (.ld true 2 (.v 86)),oU 88 (.eq true [2,2] (.v 83) (.v 87)),oC 89 88,⟨some 90,.cp (.v 3),(some (89,false))⟩,⟨some 91,.cp (.v 9),(some (89,false))⟩,⟨some 92,.ari .sub .i64 (.v 91) (.k (.int .i64 1)),(some (89,false))⟩,⟨some 93,.ci .neq (.v 90) (.v 92),(some (89,false))⟩,oU 94 (.pick (.v 89) (.k (.bool true)) (.v 93)),oC 8 94] [8]) (.ret))))))
def rs79 : List RV := [.t 8]
theorem chk79 : chkFn Tryz.prog Tryz.f79 4 pc79 rs79 = true := by kernel_rfl
theorem rule79 : Rl 79 4 pc79 rs79 := rlM Tryz.func79 chk79

/-- internal/stringslite.Cut -/
def pc80 : PC := .seq (.reg [ oU 4 (.cp (.k (.str []))),oU 5 (.cp (.k (.str []))),oU 6 (.cp (.k (.bool false)))] [0,1]) (.seq (.seq (.reg [ oC 8 0,oC 9 1,oU 10 (.call 105 [.v 8,.v 9]),oC 7 10] [0,1,7]) (.seq (.reg [ oC 11 7,oU 12 (.ci .geq (.v 11) (.k (.int .i64 0)))] [0,1,7,12]) (.cnd (.v 12) (.seq (.reg [ oC 13 0,oC 14 7,oU 15 (.slS (.v 13) none (some (.v 14))),oC 16 0,oC 17 7,oC 18 1,oU 19 (.lenS (.v 18)),oU 20 (.ari .add .i64 (.v 17) (.v 19)),oU 21 (.slS (.v 16) (some (.v 20)) none),oC 4 15,oC 5 21,oU 6 (.cp (.k (.bool true)))] [4,5,6]) (.ret)) (.skip)))) (.seq (.reg [ oC 22 0,oC 4 22,oU 5 (.cp (.k (.str []))),oU 6 (.cp (.k (.bool false)))] [4,5,6]) (.ret)))
def rs80 : List RV := [.t 4, .t 5, .t 6]
theorem chk80 : chkFn Tryz.prog Tryz.f80 2 pc80 rs80 = true := by kernel_rfl
theorem rule80 : Rl 80 2 pc80 rs80 := rlM Tryz.func80 chk80

/-- strings.CutPrefix -/
def pc81 : PC := .seq (.reg [ oU 4 (.cp (.k (.str []))),oU 5 (.cp (.k (.bool false)))] [0,1]) (.seq (.reg [ oC 6 0,oC 7 1,oU 8 (.call 106 [.v 6,.v 7]),oU 9 (.ext 8 0),oU 10 (.ext 8 1),oC 4 9,oC 5 10] [4,5]) (.ret))
def rs81 : List RV := [.t 4, .t 5]
theorem chk81 : chkFn Tryz.prog Tryz.f81 2 pc81 rs81 = true := by kernel_rfl
theorem rule81 : Rl 81 2 pc81 rs81 := rlM Tryz.func81 chk81

/-- strings.TrimPrefix -/
def pc82 : PC := .seq (.reg [ oU 4 (.cp (.k (.str [])))] [0,1]) (.seq (.reg [ oC 5 0,oC 6 1,oU 7 (.call 107 [.v 5,.v 6]),oC 4 7] [4]) (.ret))
def rs82 : List RV := [.t 4]
theorem chk82 : chkFn Tryz.prog Tryz.f82 2 pc82 rs82 = true := by kernel_rfl
theorem rule82 : Rl 82 2 pc82 rs82 := rlM Tryz.func82 chk82

/-- klippe/integer.quick -/
def pc84 : PC := .seq (.reg [ oU 4 (.cp (.k (.int .i64 0))),oU 5 (.cp (.k (.bool false)))] [0,1]) (.seq (.seq (.reg [ oC 8 0,oU 9 (.lenS (.v 8)),oC 10 1,oU 11 (.ci .gtr (.v 9) (.v 10))] [0,11]) (.cnd (.v 11) (.seq (.reg [ oU 4 (.cp (.k (.int .i64 0))),oU 5 (.cp (.k (.bool false)))] [4,5]) (.ret)) (.skip))) (.seq (.reg [ oC 13 0,oU 14 (.call 109 [.v 13]),oC 12 14,oU 15 (.ext 12 0),oU 16 (.ext 12 1),oC 6 15,oC 7 16] [6,7]) (.seq (.reg [ oC 17 6,oC 18 7,oU 19 (.en false (.v 18)),oC 4 17,oC 5 19] [4,5]) (.ret))))
def rs84 : List RV := [.t 4, .t 5]
theorem chk84 : chkFn Tryz.prog Tryz.f84 2 pc84 rs84 = true := by kernel_rfl
theorem rule84 : Rl 84 2 pc84 rs84 := rlM Tryz.func84 chk84

/-- klippe/integer.open -/
def pc85 : PC := .seq (.reg [ oU 2 (.alloc [.bool false,.sl 0 []])] [0,2]) (.seq (.reg [ oC 10 0,oU 11 (.call 81 [.v 10,.k (.str [45])]),oC 9 11,oU 12 (.ext 9 0),oU 13 (.ext 9 1),oC 3 12,oC 4 13] [2,3,4]) (.seq (.reg [ oC 14 3,oU 15 (.lenS (.v 14)),oU 16 (.ari .quo .i64 (.v 15) (.k (.int .i64 9))),oU 17 (.ari .add .i64 (.v 16) (.k (.int .i64 1))),oU 18 (.mkS 107 [.int .u64 0] 8 (.k (.int .i64 0)) (.v 17)),oU 5 (.tk 18)] [2,3,4,5]) (.seq (.blk 0 (.loop (.seq (.seq (.reg [ oC 19 3,oU 20 (.lenS (.v 19)),oU 21 (.ci .gtr (.v 20) (.k (.int .i64 0)))] [2,3,4,5,21]) (.cnd (.v 21) (.skip) (.exit 0))) (.blk 1 (.seq (.reg [ oC 22 3,oU 23 (.lenS (.v 22)),oU 24 (.ari .sub .i64 (.v 23) (.k (.int .i64 9))),oU 25 (.mm true [.v 24,.k (.int .i64 0)]),oC 6 25] [2,3,4,5,6]) (.seq (.reg [ oC 27 3,oC 28 6,oU 29 (.slS (.v 27) (some (.v 28)) none),oU 30 (.call 110 [.v 29,.k (.int .i64 10),.k (.int .i64 64)]),oC 26 30,oU 31 (.ext 26 0),oU 32 (.ext 26 1),oC 7 31,oC 8 32] [2,3,4,5,6,7]) (.reg [ oU 33 (.tk 5),oC 34 7,oU 35 (.bldS 107 [.int .u64 0] 1 [(0,1,.v 34)]),oU 36 (.app 107 1 8 (.v 33) (.v 35)),oC 37 3,oC 38 6,oU 39 (.slS (.v 37) none (some (.v 38))),oU 5 (.tk 36),oC 3 39] [2,3,4,5]))))))) (.seq (.reg [ oC 40 4,oU 41 (.tk 5),oU 42 (.call 111 [.v 41]),oU 43 (.bld [.bool false,.sl 0 []] [(0,1,.v 40),(1,1,.v 42)]),⟨none,.st 2 (.v 2) (.v 43),none⟩] [2]) (.ret)))))
def rs85 : List RV := [.c 2 true 2]
theorem chk85 : chkFn Tryz.prog Tryz.f85 1 pc85 rs85 = true := by kernel_rfl
theorem rule85 : Rl 85 1 pc85 rs85 := rlM Tryz.func85 chk85

/-- klippe/integer.divide -/
def pc86 : PC := .seq (.reg [ oU 3 (.bx 1 (.v 1)),oU 4 (.alG 107),oU 5 (.nil 107)] [0,3,4,5,1000004]) (.seq (.seq (.reg [ oU 14 (.mv (.v 0)),oU 15 (.ld false 1 (.v 3)),oU 16 (.call 98 [.o 14 0,.v 15]),oU 17 (.ci .lss (.v 16) (.k (.int .i64 0)))] [0,3,4,5,17,1000004]) (.cnd (.v 17) (.seq (.reg [ oU 18 (.tk 0),⟨none,.sgP 4 (.k (.sl 0 [])) [],none⟩,oU 5 (.tk 18)] [4,5,1000004]) (.ret)) (.skip))) (.seq (.seq (.reg [ oU 19 (.ld false 1 (.v 3)),oU 20 (.len (.v 19)),oU 21 (.ci .eql (.v 20) (.k (.int .i64 1)))] [0,3,4,5,21,1000004]) (.cnd (.v 21) (.seq (.reg [ oU 22 (.mv (.v 0)),oU 23 (.len (.o 22 0)),oU 24 (.mkS 107 [.int .u64 0] 8 (.v 23) (.v 23)),⟨none,.sgO 4 (.v 24) [],none⟩] [0,3,4,1000004]) (.seq (.reg [ oU 6 (.alloc [.int .u64 0]),⟨none,.st 1 (.v 6) (.k (.int .u64 0)),none⟩] [0,3,4,6,1000004]) (.seq (.seq (.reg [ oU 25 (.tk 0),oU 26 (.call 112 [.v 25])] [3,4,6,26,1000004]) (.blk 0 (.rfn 135 false 1 26 27 28 [7,8,27,28,29,30,31,32,33,34,35,36,37,38,39,40,41,42,43,44,45] (.seq (.reg [ oC 7 27] [3,4,6,7,26,28,1000004]) (.reg [ oC 8 28] [3,4,6,7,8,26,1000004])) (.blk 1 (.seq (.reg [ oU 29 (.ld false 1 (.v 6)),oU 30 (.ari .mul .u64 (.v 29) (.k (.int .u64 1000000000))),oC 31 8,oU 32 (.ari .add .u64 (.v 30) (.v 31)),⟨none,.st 1 (.v 6) (.v 32),none⟩] [3,4,6,7,26,1000004]) (.reg [ oU 33 (.lg 4),oC 34 7,oU 35 (.ld false 1 (.v 6)),oU 36 (.ld false 1 (.v 3)),oU 37 (.ia 1 (.v 36) (.k (.int .i64 0))),oU 38 (.ld false 1 (.v 37)),oU 39 (.ari .quo .u64 (.v 35) (.v 38)),oU 40 (.ld false 1 (.v 6)),oU 41 (.ld false 1 (.v 3)),oU 42 (.ia 1 (.v 41) (.k (.int .i64 0))),oU 43 (.ld false 1 (.v 42)),oU 44 (.ari .rem .u64 (.v 40) (.v 43)),oU 45 (.ia 1 (.o 33 1000004) (.v 34)),⟨none,.st 1 (.o 45 1000004) (.v 39),none⟩,⟨none,.st 1 (.v 6) (.v 44),none⟩] [3,4,6,26,1000004]))) [3,4,6,26,1000004]))) (.seq (.reg [ oU 46 (.lg 4),oU 47 (.call 111 [.o 46 1000004]),oU 48 (.ld false 1 (.v 6)),oU 49 (.bldS 107 [.int .u64 0] 1 [(0,1,.v 48)]),oU 50 (.call 111 [.v 49]),⟨none,.sgP 4 (.v 47) [46],none⟩,oU 5 (.tk 50)] [4,5,1000004]) (.ret))))) (.skip))) (.seq (.reg [ oU 51 (.ld false 1 (.v 3)),oU 52 (.ld false 1 (.v 3)),oU 53 (.len (.v 52)),oU 54 (.ari .sub .i64 (.v 53) (.k (.int .i64 1))),oU 55 (.ia 1 (.v 51) (.v 54)),oU 56 (.ld false 1 (.v 55)),oU 57 (.ari .add .u64 (.v 56) (.k (.int .u64 1))),oU 58 (.ari .quo .u64 (.k (.int .u64 1000000000)) (.v 57)),oC 9 58] [0,3,4,5,9,1000004]) (.seq (.reg [ oU 59 (.sh (.v 0)),oC 60 9,oU 61 (.call 113 [.v 59,.v 60]),oU 62 (.ld false 1 (.v 3)),oC 63 9,oU 64 (.call 113 [.v 62,.v 63]),oU 0 (.tk 61),⟨none,.st 1 (.v 3) (.v 64),none⟩] [0,3,4,5,9,1000004]) (.seq (.reg [ oU 65 (.mv (.v 0)),oU 66 (.len (.o 65 0)),oU 67 (.mkS 107 [.int .u64 0] 8 (.v 66) (.v 66)),⟨none,.sgO 4 (.v 67) [],none⟩] [0,3,4,5,9,1000004]) (.seq (.reg [ oU 68 (.ld false 1 (.v 3)),oU 69 (.ld false 1 (.v 3)),oU 70 (.len (.v 69)),oU 71 (.ari .sub .i64 (.v 70) (.k (.int .i64 1))),oU 72 (.ia 1 (.v 68) (.v 71)),oU 73 (.ld false 1 (.v 72)),oC 10 73] [0,3,4,5,9,10,1000004]) (.seq (.seq (.reg [ oU 74 (.mv (.v 0)),oU 75 (.len (.o 74 0)),oU 76 (.ari .sub .i64 (.v 75) (.k (.int .i64 1))),oC 11 76] [0,3,4,5,9,10,11,1000004]) (.blk 2 (.loop (.seq (.seq (.reg [ oC 77 11,oU 78 (.ci .geq (.v 77) (.k (.int .i64 0)))] [0,3,4,5,9,10,11,78,1000004]) (.cnd (.v 78) (.skip) (.exit 2))) (.seq (.blk 3 (.seq (.reg [ oU 81 (.mv (.v 0)),oC 82 11,oU 83 (.ia 1 (.o 81 0) (.v 82)),oU 84 (.ld false 1 (.o 83 0)),oU 85 (.bldS 107 [.int .u64 0] 1 [(0,1,.v 84)]),oU 86 (.sh (.v 5)),oU 87 (.app 107 1 8 (.v 85) (.v 86)),oU 88 (.call 111 [.v 87]),oU 5 (.tk 88)] [0,3,4,5,9,10,11,1000004]) (.seq (.seq (.reg [ oU 89 (.mv (.v 5)),oU 90 (.ld false 1 (.v 3)),oU 91 (.call 98 [.o 89 5,.v 90]),oU 92 (.ci .lss (.v 91) (.k (.int .i64 0)))] [0,3,4,5,9,10,11,92,1000004]) (.cnd (.v 92) (.exit 3) (.skip))) (.seq (.reg [ oU 93 (.mv (.v 5)),oU 94 (.mv (.v 5)),oU 95 (.len (.o 94 5)),oU 96 (.ari .sub .i64 (.v 95) (.k (.int .i64 1))),oU 97 (.ia 1 (.o 93 5) (.v 96)),oU 98 (.ld false 1 (.o 97 5)),oC 12 98] [0,3,4,5,9,10,11,12,1000004]) (.seq (.seq (.reg [ oU 99 (.mv (.v 5)),oU 100 (.len (.o 99 5)),oU 101 (.ld false 1 (.v 3)),oU 102 (.len (.v 101)),oU 103 (.ci .gtr (.v 100) (.v 102))] [0,3,4,5,9,10,11,12,103,1000004]) (.cnd (.v 103) (.reg [ oC 104 12,oU 105 (.ari .mul .u64 (.v 104) (.k (.int .u64 1000000000))),oU 106 (.mv (.v 5)),oU 107 (.mv (.v 5)),oU 108 (.len (.o 107 5)),oU 109 (.ari .sub .i64 (.v 108) (.k (.int .i64 2))),oU 110 (.ia 1 (.o 106 5) (.v 109)),oU 111 (.ld false 1 (.o 110 5)),oU 112 (.ari .add .u64 (.v 105) (.v 111)),oC 12 112] [0,3,4,5,9,10,11,12,1000004]) (.skip))) (.seq (.reg [ oC 113 12,oC 114 10,oU 115 (.ari .quo .u64 (.v 113) (.v 114)),oU 116 (.mm false [.v 115,.k (.int .u64 999999999)]),oC 12 116] [0,3,4,5,9,10,11,12,1000004]) (.seq (.reg [ oU 117 (.ld false 1 (.v 3)),oC 118 12,oU 119 (.call 113 [.v 117,.v 118]),oU 13 (.tk 119)] [0,3,4,5,9,10,11,12,13,1000004]) (.seq (.blk 4 (.loop (.seq (.seq (.reg [ oU 120 (.mv (.v 13)),oU 121 (.mv (.v 5)),oU 122 (.call 98 [.o 120 13,.o 121 5]),oU 123 (.ci .gtr (.v 122) (.k (.int .i64 0)))] [0,3,4,5,9,10,11,12,13,123,1000004]) (.cnd (.v 123) (.skip) (.exit 4))) (.blk 5 (.seq (.reg [ oU 124 (.sh (.v 13)),oU 125 (.ld false 1 (.v 3)),oU 126 (.call 99 [.v 124,.v 125]),oU 13 (.tk 126)] [0,3,4,5,9,10,11,12,13,1000004]) (.reg [ oC 127 12,oU 128 (.ari .sub .u64 (.v 127) (.k (.int .u64 1))),oC 12 128] [0,3,4,5,9,10,11,12,13,1000004])))))) (.reg [ oU 129 (.lg 4),oC 130 11,oC 131 12,oU 132 (.sh (.v 5)),oU 133 (.mv (.v 13)),oU 134 (.call 99 [.v 132,.o 133 13]),oU 135 (.ia 1 (.o 129 1000004) (.v 130)),⟨none,.st 1 (.o 135 1000004) (.v 131),none⟩,oU 5 (.tk 134)] [0,3,4,5,9,10,11,1000004]))))))))) (.reg [ oC 79 11,oU 80 (.ari .sub .i64 (.v 79) (.k (.int .i64 1))),oC 11 80] [0,3,4,5,9,10,11,1000004])))))) (.seq (.reg [ oU 137 (.sh (.v 5)),oC 138 9,oU 139 (.bldS 107 [.int .u64 0] 1 [(0,1,.v 138)]),oU 140 (.call 86 [.v 137,.v 139]),oC 136 140,oU 141 (.ext 136 0),oU 142 (.ext 136 1),oC 5 141] [4,5,1000004]) (.seq (.reg [ oU 143 (.lg 4),oU 144 (.call 111 [.o 143 1000004]),oU 145 (.sh (.v 5)),⟨none,.sgP 4 (.v 144) [143],none⟩,oU 5 (.tk 145)] [4,5,1000004]) (.ret))))))))))
def rs86 : List RV := [.c 4 false 1, .t 5]
theorem chk86 : chkFnR Tryz.prog Tryz.f86 2 pc86 rs86 = true := by kernel_rfl
theorem nc86 : pc86.noCus = true := by kernel_rfl
theorem rule86 {L : World → Prop} (hL : ∀ w w', L w → Below w.heap.size w w' → L w') (hbk : ∀ q ∈ pc86.backs, IsBack Tryz.prog q.1 q.2.1 q.2.2) {ds : List D} {r : D} (hr0 : aliasOf r = none) (hlen : ds.length = 2) (hp : ds.all (fun d => (aliasOf d).isNone) = true)
    (h : wC (Con Tryz.prog L) pc86 (retQ rs86 r) (initE 0 ds)) : Con Tryz.prog L 86 ds r :=
  con_chkR hL Tryz.func86 chk86 hbk (fun c _ q hq => by rw [cusL_nil c _ nc86] at hq; cases hq) hr0 hlen hp (wC_sound h)

/-- klippe/integer.times -/
def pc88 : PC := .seq (.reg [ oU 4 (.nil 107)] [0,1]) (.seq (.reg [ oC 12 0,oU 13 (.len (.v 12)),oC 14 1,oU 15 (.len (.v 14)),oU 16 (.ari .add .i64 (.v 13) (.v 15)),oU 17 (.ari .add .i64 (.v 16) (.k (.int .i64 1))),oU 18 (.mkS 107 [.int .u64 0] 8 (.v 17) (.v 17)),oU 5 (.tk 18)] [0,1,5]) (.seq (.seq (.reg [ oC 19 0,oU 20 (.len (.v 19)),oU 21 (.cp (.k (.int .i64 0)))] [1,5,19,20,21]) (.blk 0 (.loop (.seq (.reg [ oU 22 (.ci .lss (.v 21) (.v 20))] [1,5,19,20,21,22]) (.seq (.cnd (.v 22) (.skip) (.exit 0)) (.seq (.blk 1 (.seq (.reg [ oC 23 21,oU 24 (.ia 1 (.v 19) (.v 21)),oU 25 (.ld false 1 (.v 24)),oC 6 23,oC 7 25] [1,5,6,7,19,20,21]) (.seq (.reg [ oU 8 (.cp (.k (.int .u64 0)))] [1,5,6,7,8,19,20,21]) (.seq (.seq (.reg [ oC 26 1,oU 27 (.len (.v 26)),oU 28 (.cp (.k (.int .i64 0)))] [1,5,6,7,8,19,20,21,26,27,28]) (.blk 2 (.loop (.seq (.reg [ oU 29 (.ci .lss (.v 28) (.v 27))] [1,5,6,7,8,19,20,21,26,27,28,29]) (.seq (.cnd (.v 29) (.skip) (.exit 2)) (.seq (.blk 3 (.seq (.reg [ oC 30 28,oU 31 (.ia 1 (.v 26) (.v 28)),oU 32 (.ld false 1 (.v 31)),oC 9 30,oC 10 32] [1,5,6,7,8,9,10,19,20,21,26,27,28]) (.seq (.reg [ oC 33 8,oU 34 (.mv (.v 5)),oC 35 6,oC 36 9,oU 37 (.ari .add .i64 (.v 35) (.v 36)),oU 38 (.ia 1 (.o 34 5) (.v 37)),oU 39 (.ld false 1 (.o 38 5)),oC 40 7,oC 41 10,oU 42 (.ari .mul .u64 (.v 40) (.v 41)),oU 43 (.ari .add .u64 (.v 39) (.v 42)),oU 44 (.ari .add .u64 (.v 33) (.v 43)),oC 8 44] [1,5,6,7,8,9,19,20,21,26,27,28]) (.seq (.reg [ oU 45 (.mv (.v 5)),oC 46 6,oC 47 9,oU 48 (.ari .add .i64 (.v 46) (.v 47)),oC 49 8,oU 50 (.ari .rem .u64 (.v 49) (.k (.int .u64 1000000000))),oU 51 (.ia 1 (.o 45 5) (.v 48)),⟨none,.st 1 (.o 51 5) (.v 50),none⟩] [1,5,6,7,8,19,20,21,26,27,28]) (.reg [ oC 52 8,oU 53 (.ari .quo .u64 (.v 52) (.k (.int .u64 1000000000))),oC 8 53] [1,5,6,7,8,19,20,21,26,27,28]))))) (.reg [ oU 54 (.ari .add .i64 (.v 28) (.k (.int .i64 1))),oC 28 54] [1,5,6,7,8,19,20,21,26,27,28]))))))) (.seq (.reg [ oC 55 6,oC 56 1,oU 57 (.len (.v 56)),oU 58 (.ari .add .i64 (.v 55) (.v 57)),oC 11 58] [1,5,8,11,19,20,21]) (.blk 4 (.loop (.seq (.seq (.reg [ oC 59 8,oU 60 (.ci .gtr (.v 59) (.k (.int .u64 0)))] [1,5,8,11,19,20,21,60]) (.cnd (.v 60) (.skip) (.exit 4))) (.seq (.blk 5 (.seq (.reg [ oC 63 8,oU 64 (.mv (.v 5)),oC 65 11,oU 66 (.ia 1 (.o 64 5) (.v 65)),oU 67 (.ld false 1 (.o 66 5)),oU 68 (.ari .add .u64 (.v 63) (.v 67)),oC 8 68] [1,5,8,11,19,20,21]) (.seq (.reg [ oU 69 (.mv (.v 5)),oC 70 11,oC 71 8,oU 72 (.ari .rem .u64 (.v 71) (.k (.int .u64 1000000000))),oU 73 (.ia 1 (.o 69 5) (.v 70)),⟨none,.st 1 (.o 73 5) (.v 72),none⟩] [1,5,8,11,19,20,21]) (.reg [ oC 74 8,oU 75 (.ari .quo .u64 (.v 74) (.k (.int .u64 1000000000))),oC 8 75] [1,5,8,11,19,20,21])))) (.reg [ oC 61 11,oU 62 (.ari .add .i64 (.v 61) (.k (.int .i64 1))),oC 11 62] [1,5,8,11,19,20,21])))))))))) (.reg [ oU 76 (.ari .add .i64 (.v 21) (.k (.int .i64 1))),oC 21 76] [1,5,19,20,21]))))))) (.seq (.reg [ oU 77 (.tk 5),oU 78 (.call 111 [.v 77]),oU 4 (.tk 78)] [4]) (.ret))))
def rs88 : List RV := [.t 4]
theorem chk88 : chkFn Tryz.prog Tryz.f88 2 pc88 rs88 = true := by kernel_rfl
theorem rule88 : Rl 88 2 pc88 rs88 := rlM Tryz.func88 chk88

/-- strings.HasPrefix -/
def pc89 : PC := .seq (.reg [ oU 4 (.cp (.k (.bool false)))] [0,1]) (.seq (.reg [ oC 5 0,oC 6 1,oU 7 (.call 118 [.v 5,.v 6]),oC 4 7] [4]) (.ret))
def rs89 : List RV := [.t 4]
theorem chk89 : chkFn Tryz.prog Tryz.f89 2 pc89 rs89 = true := by kernel_rfl
theorem rule89 : Rl 89 2 pc89 rs89 := rlM Tryz.func89 chk89

/-- klippe/integer.DivMod -/
def pc90 : PC := .seq (.reg [ oU 4 (.cp (.k (.str []))),oU 5 (.cp (.k (.str []))),oU 6 (.cp (.k (.int .i64 0)))] [0,1]) (.seq (.seq (.reg [ oC 11 1,oU 12 (.sc .eql (.v 11) (.k (.str [48])))] [0,1,12]) (.cnd (.v 12) (.seq (.reg [ oU 4 (.cp (.k (.str []))),oU 5 (.cp (.k (.str []))),oU 6 (.cp (.k (.int .i64 17)))] [4,5,6]) (.ret)) (.skip))) (.seq (.reg [ oC 13 0,oU 14 (.call 85 [.v 13]),oC 15 1,oU 16 (.call 85 [.v 15]),oU 7 (.alloc [.bool false,.sl 0 []]),oU 8 (.alloc [.bool false,.sl 0 []]),⟨none,.st 2 (.v 7) (.v 14),none⟩,⟨none,.st 2 (.v 8) (.v 16),none⟩] [7,8]) (.seq (.reg [ oU 18 (.fa 1 (.v 7)),oU 19 (.ld false 1 (.o 18 7)),oU 20 (.fa 1 (.v 8)),oU 21 (.ld false 1 (.o 20 8)),oU 22 (.call 86 [.v 19,.v 21]),oC 17 22,oU 23 (.ext 17 0),oU 24 (.ext 17 1),oC 9 23,oC 10 24] [7,8,9,10]) (.seq (.seq (.reg [ oU 25 (.fa 0 (.v 7)),oU 26 (.ld false 1 (.o 25 7)),oC 27 26,⟨some 28,.mv (.v 10),(some (27,true))⟩,⟨some 29,.len (.o 28 10),(some (27,true))⟩,⟨some 30,.ci .gtr (.v 29) (.k (.int .i64 0)),(some (27,true))⟩,oU 31 (.pick (.v 27) (.v 30) (.k (.bool false)))] [7,8,9,10,31]) (.cnd (.v 31) (.reg [ oU 32 (.sh (.v 9)),oU 33 (.bldS 107 [.int .u64 0] 1 [(0,1,.k (.int .u64 1))]),oU 34 (.call 97 [.v 32,.v 33]),oU 35 (.fa 1 (.v 8)),oU 36 (.ld false 1 (.o 35 8)),oU 37 (.sh (.v 10)),oU 38 (.call 99 [.v 36,.v 37]),oU 9 (.tk 34),oU 10 (.tk 38)] [7,8,9,10]) (.skip))) (.seq (.reg [ oU 39 (.fa 0 (.v 7)),oU 40 (.ld false 1 (.o 39 7)),oU 41 (.fa 0 (.v 8)),oU 42 (.ld false 1 (.o 41 8)),oU 43 (.eqb true (.v 40) (.v 42)),oU 44 (.sh (.v 9)),oU 45 (.bld [.bool false,.sl 0 []] [(0,1,.v 43),(1,1,.v 44)]),oU 46 (.call 87 [.v 45]),oU 47 (.sh (.v 10)),oU 48 (.bld [.bool false,.sl 0 []] [(0,1,.k (.bool false)),(1,1,.v 47)]),oU 49 (.call 87 [.v 48]),oC 4 46,oC 5 49,oU 6 (.cp (.k (.int .i64 0)))] [4,5,6]) (.ret))))))
def rs90 : List RV := [.t 4, .t 5, .t 6]
theorem chk90 : chkFn Tryz.prog Tryz.f90 2 pc90 rs90 = true := by kernel_rfl
theorem rule90 : Rl 90 2 pc90 rs90 := rlM Tryz.func90 chk90

/-- klippe/klipperef02.Parts -/
def pc92 : PC := .seq (.reg [ oU 2 (.cp (.k (.str []))),oU 3 (.cp (.k (.str [])))] [0]) (.seq (.reg [ oC 5 0,oU 6 (.call 94 [.v 5,.k (.int .u8 47)]),oC 4 6] [0,4]) (.seq (.seq (.reg [ oC 7 4,oU 8 (.ci .lss (.v 7) (.k (.int .i64 0)))] [0,4,8]) (.cnd (.v 8) (.seq (.reg [ oC 9 0,oC 2 9,oU 3 (.cp (.k (.str [49])))] [2,3]) (.ret)) (.skip))) (.seq (.reg [ oC 10 0,oC 11 4,oU 12 (.slS (.v 10) none (some (.v 11))),oC 13 0,oC 14 4,oU 15 (.ari .add .i64 (.v 14) (.k (.int .i64 1))),oU 16 (.slS (.v 13) (some (.v 15)) none),oC 2 12,oC 3 16] [2,3]) (.ret))))
def rs92 : List RV := [.t 2, .t 3]
theorem chk92 : chkFn Tryz.prog Tryz.f92 1 pc92 rs92 = true := by kernel_rfl
theorem rule92 : Rl 92 1 pc92 rs92 := rlM Tryz.func92 chk92

/-- klippe/klipperef01.Right -/
def pc93 : PC := .seq (.reg [ oU 2 (.cp (.k (.bool false)))] [0]) (.seq (.reg [ oC 6 0,oU 7 (.call 120 [.v 6]),oC 5 7,oU 8 (.ext 5 0),oU 9 (.ext 5 1),oC 3 8,oC 4 9] [0,4]) (.seq (.reg [ oC 10 0,oU 11 (.call 121 [.v 10]),oC 12 11,⟨some 13,.cp (.v 4),(some (12,true))⟩,⟨some 14,.lenS (.v 13),(some (12,true))⟩,⟨some 15,.ci .leq (.v 14) (.k (.int .i64 200)),(some (12,true))⟩,oU 16 (.pick (.v 12) (.v 15) (.k (.bool false))),oC 2 16] [2]) (.ret)))
def rs93 : List RV := [.t 2]
theorem chk93 : chkFn Tryz.prog Tryz.f93 1 pc93 rs93 = true := by kernel_rfl
theorem rule93 : Rl 93 1 pc93 rs93 := rlM Tryz.func93 chk93

/-- strings.IndexByte -/
def pc94 : PC := .seq (.reg [ oU 4 (.cp (.k (.int .i64 0)))] [0,1]) (.seq (.reg [ oC 5 0,oC 6 1,oU 7 (.call 122 [.v 5,.v 6]),oC 4 7] [4]) (.ret))
def rs94 : List RV := [.t 4]
theorem chk94 : chkFn Tryz.prog Tryz.f94 2 pc94 rs94 = true := by kernel_rfl
theorem rule94 : Rl 94 2 pc94 rs94 := rlM Tryz.func94 chk94

/-- klippe/klipperef01.Compare -/
def pc95 : PC := .seq (.reg [ oU 4 (.cp (.k (.int .i64 0)))] [0,1]) (.seq (.reg [ oC 5 0,oC 6 1,oU 7 (.call 124 [.v 5,.v 6]),oU 8 (.call 123 [.v 7]),oC 4 8] [4]) (.ret))
def rs95 : List RV := [.t 4]
theorem chk95 : chkFn Tryz.prog Tryz.f95 2 pc95 rs95 = true := by kernel_rfl
theorem rule95 : Rl 95 2 pc95 rs95 := rlM Tryz.func95 chk95

/-- klippe/klipperef01.Gcd -/
def pc96 : PC := .seq (.reg [ oU 4 (.cp (.k (.str [])))] [0,1]) (.seq (.reg [ oC 7 0,oU 8 (.call 125 [.v 7]),oC 9 1,oU 10 (.call 125 [.v 9]),oC 0 8,oC 1 10] [0,1]) (.seq (.blk 0 (.loop (.seq (.seq (.reg [ oC 11 1,oU 12 (.sc .neq (.v 11) (.k (.str [48])))] [0,1,12]) (.cnd (.v 12) (.skip) (.exit 0))) (.blk 1 (.seq (.reg [ oC 14 0,oC 15 1,oU 16 (.call 126 [.v 14,.v 15]),oC 13 16,oU 17 (.ext 13 0),oU 18 (.ext 13 1),oC 5 17,oC 6 18] [1,6]) (.reg [ oC 19 1,oC 20 6,oC 0 19,oC 1 20] [0,1])))))) (.seq (.reg [ oC 21 0,oC 4 21] [4]) (.ret))))
def rs96 : List RV := [.t 4]
theorem chk96 : chkFn Tryz.prog Tryz.f96 2 pc96 rs96 = true := by kernel_rfl
theorem rule96 : Rl 96 2 pc96 rs96 := rlM Tryz.func96 chk96

/-- klippe/integer.plus -/
def pc97 : PC := .seq (.reg [ oU 4 (.nil 107)] [0,1]) (.seq (.seq (.reg [ oC 9 0,oU 10 (.len (.v 9)),oC 11 1,oU 12 (.len (.v 11)),oU 13 (.ci .lss (.v 10) (.v 12))] [0,1,13]) (.cnd (.v 13) (.reg [ oC 14 1,oC 15 0,oC 0 14,oC 1 15] [0,1]) (.skip))) (.seq (.reg [ oC 16 0,oU 17 (.len (.v 16)),oU 18 (.ari .add .i64 (.v 17) (.k (.int .i64 1))),oU 19 (.mkS 107 [.int .u64 0] 8 (.k (.int .i64 0)) (.v 18)),oU 5 (.tk 19)] [0,1,5]) (.seq (.reg [ oU 6 (.cp (.k (.int .u64 0)))] [0,1,5,6]) (.seq (.seq (.reg [ oC 20 0,oU 21 (.len (.v 20)),oU 22 (.cp (.k (.int .i64 0)))] [1,5,6,20,21,22]) (.blk 0 (.loop (.seq (.reg [ oU 23 (.ci .lss (.v 22) (.v 21))] [1,5,6,20,21,22,23]) (.seq (.cnd (.v 23) (.skip) (.exit 0)) (.seq (.blk 1 (.seq (.reg [ oC 24 22,oU 25 (.ia 1 (.v 20) (.v 22)),oU 26 (.ld false 1 (.v 25)),oC 7 24,oC 8 26] [1,5,6,7,8,20,21,22]) (.seq (.reg [ oC 27 6,oC 28 8,oU 29 (.ari .add .u64 (.v 27) (.v 28)),oC 6 29] [1,5,6,7,20,21,22]) (.seq (.seq (.reg [ oC 30 7,oC 31 1,oU 32 (.len (.v 31)),oU 33 (.ci .lss (.v 30) (.v 32))] [1,5,6,7,20,21,22,33]) (.cnd (.v 33) (.reg [ oC 34 6,oC 35 1,oC 36 7,oU 37 (.ia 1 (.v 35) (.v 36)),oU 38 (.ld false 1 (.v 37)),oU 39 (.ari .add .u64 (.v 34) (.v 38)),oC 6 39] [1,5,6,20,21,22]) (.skip))) (.seq (.reg [ oU 40 (.tk 5),oC 41 6,oU 42 (.ari .rem .u64 (.v 41) (.k (.int .u64 1000000000))),oU 43 (.bldS 107 [.int .u64 0] 1 [(0,1,.v 42)]),oU 44 (.app 107 1 8 (.v 40) (.v 43)),oU 5 (.tk 44)] [1,5,6,20,21,22]) (.reg [ oC 45 6,oU 46 (.ari .quo .u64 (.v 45) (.k (.int .u64 1000000000))),oC 6 46] [1,5,6,20,21,22])))))) (.reg [ oU 47 (.ari .add .i64 (.v 22) (.k (.int .i64 1))),oC 22 47] [1,5,6,20,21,22]))))))) (.seq (.reg [ oU 48 (.tk 5),oC 49 6,oU 50 (.bldS 107 [.int .u64 0] 1 [(0,1,.v 49)]),oU 51 (.app 107 1 8 (.v 48) (.v 50)),oU 52 (.call 111 [.v 51]),oU 4 (.tk 52)] [4]) (.ret))))))
def rs97 : List RV := [.t 4]
theorem chk97 : chkFn Tryz.prog Tryz.f97 2 pc97 rs97 = true := by kernel_rfl
theorem rule97 : Rl 97 2 pc97 rs97 := rlM Tryz.func97 chk97

/-- klippe/integer.order -/
def pc98 : PC := .seq (.reg [ oU 4 (.cp (.k (.int .i64 0)))] [0,1]) (.seq (.seq (.reg [ oC 6 0,oU 7 (.len (.v 6)),oC 8 1,oU 9 (.len (.v 8)),oU 10 (.ci .neq (.v 7) (.v 9))] [0,1,10]) (.cnd (.v 10) (.seq (.seq (.reg [ oC 11 0,oU 12 (.len (.v 11)),oC 13 1,oU 14 (.len (.v 13)),oU 15 (.ci .lss (.v 12) (.v 14))] [15]) (.cnd (.v 15) (.seq (.reg [ oU 4 (.cp (.k (.int .i64 (-1))))] [4]) (.ret)) (.skip))) (.seq (.reg [ oU 4 (.cp (.k (.int .i64 1)))] [4]) (.ret))) (.skip))) (.seq (.seq (.reg [ oC 16 0,oU 17 (.len (.v 16)),oU 18 (.ari .sub .i64 (.v 17) (.k (.int .i64 1))),oC 5 18] [0,1,5]) (.blk 0 (.loop (.seq (.seq (.reg [ oC 19 5,oU 20 (.ci .geq (.v 19) (.k (.int .i64 0)))] [0,1,5,20]) (.cnd (.v 20) (.skip) (.exit 0))) (.seq (.blk 1 (.seq (.reg [ oC 23 0,oC 24 5,oU 25 (.ia 1 (.v 23) (.v 24)),oU 26 (.ld false 1 (.v 25)),oC 27 1,oC 28 5,oU 29 (.ia 1 (.v 27) (.v 28)),oU 30 (.ld false 1 (.v 29)),oU 31 (.ci .neq (.v 26) (.v 30))] [0,1,5,31]) (.cnd (.v 31) (.seq (.seq (.reg [ oC 32 0,oC 33 5,oU 34 (.ia 1 (.v 32) (.v 33)),oU 35 (.ld false 1 (.v 34)),oC 36 1,oC 37 5,oU 38 (.ia 1 (.v 36) (.v 37)),oU 39 (.ld false 1 (.v 38)),oU 40 (.ci .lss (.v 35) (.v 39))] [40]) (.cnd (.v 40) (.seq (.reg [ oU 4 (.cp (.k (.int .i64 (-1))))] [4]) (.ret)) (.skip))) (.seq (.reg [ oU 4 (.cp (.k (.int .i64 1)))] [4]) (.ret))) (.skip)))) (.reg [ oC 21 5,oU 22 (.ari .sub .i64 (.v 21) (.k (.int .i64 1))),oC 5 22] [0,1,5])))))) (.seq (.reg [ oU 4 (.cp (.k (.int .i64 0)))] [4]) (.ret))))
def rs98 : List RV := [.t 4]
theorem chk98 : chkFn Tryz.prog Tryz.f98 2 pc98 rs98 = true := by kernel_rfl
theorem rule98 : Rl 98 2 pc98 rs98 := rlM Tryz.func98 chk98

/-- klippe/integer.minus -/
def pc99 : PC := .seq (.reg [ oU 4 (.nil 107)] [0,1]) (.seq (.reg [ oC 10 0,oU 11 (.len (.v 10)),oU 12 (.mkS 107 [.int .u64 0] 8 (.k (.int .i64 0)) (.v 11)),oU 5 (.tk 12)] [0,1,5]) (.seq (.reg [ oU 6 (.cp (.k (.int .u64 0)))] [0,1,5,6]) (.seq (.seq (.reg [ oC 13 0,oU 14 (.len (.v 13)),oU 15 (.cp (.k (.int .i64 0)))] [1,5,6,13,14,15]) (.blk 0 (.loop (.seq (.reg [ oU 16 (.ci .lss (.v 15) (.v 14))] [1,5,6,13,14,15,16]) (.seq (.cnd (.v 16) (.skip) (.exit 0)) (.seq (.blk 1 (.seq (.reg [ oC 17 15,oU 18 (.ia 1 (.v 13) (.v 15)),oU 19 (.ld false 1 (.v 18)),oC 7 17,oC 8 19] [1,5,6,7,8,13,14,15]) (.seq (.reg [ oC 20 6,oC 9 20] [1,5,7,8,9,13,14,15]) (.seq (.seq (.reg [ oC 21 7,oC 22 1,oU 23 (.len (.v 22)),oU 24 (.ci .lss (.v 21) (.v 23))] [1,5,7,8,9,13,14,15,24]) (.cnd (.v 24) (.reg [ oC 25 9,oC 26 1,oC 27 7,oU 28 (.ia 1 (.v 26) (.v 27)),oU 29 (.ld false 1 (.v 28)),oU 30 (.ari .add .u64 (.v 25) (.v 29)),oC 9 30] [1,5,8,9,13,14,15]) (.skip))) (.seq (.reg [ oU 6 (.cp (.k (.int .u64 0)))] [1,5,6,8,9,13,14,15]) (.seq (.seq (.reg [ oC 31 8,oC 32 9,oU 33 (.ci .lss (.v 31) (.v 32))] [1,5,6,8,9,13,14,15,33]) (.cnd (.v 33) (.reg [ oC 34 8,oU 35 (.ari .add .u64 (.v 34) (.k (.int .u64 1000000000))),oC 8 35,oU 6 (.cp (.k (.int .u64 1)))] [1,5,6,8,9,13,14,15]) (.skip))) (.reg [ oU 36 (.tk 5),oC 37 8,oC 38 9,oU 39 (.ari .sub .u64 (.v 37) (.v 38)),oU 40 (.bldS 107 [.int .u64 0] 1 [(0,1,.v 39)]),oU 41 (.app 107 1 8 (.v 36) (.v 40)),oU 5 (.tk 41)] [1,5,6,13,14,15]))))))) (.reg [ oU 42 (.ari .add .i64 (.v 15) (.k (.int .i64 1))),oC 15 42] [1,5,6,13,14,15]))))))) (.seq (.reg [ oU 43 (.tk 5),oU 44 (.call 111 [.v 43]),oU 4 (.tk 44)] [4]) (.ret)))))
def rs99 : List RV := [.t 4]
theorem chk99 : chkFn Tryz.prog Tryz.f99 2 pc99 rs99 = true := by kernel_rfl
theorem rule99 : Rl 99 2 pc99 rs99 := rlM Tryz.func99 chk99

/-- internal/stringslite.CutPrefix -/
def pc106 : PC := .seq (.reg [ oU 4 (.cp (.k (.str []))),oU 5 (.cp (.k (.bool false)))] [0,1]) (.seq (.seq (.reg [ oC 6 0,oC 7 1,oU 8 (.call 118 [.v 6,.v 7]),oU 9 (.not (.v 8))] [0,1,9]) (.cnd (.v 9) (.seq (.reg [ oC 10 0,oC 4 10,oU 5 (.cp (.k (.bool false)))] [4,5]) (.ret)) (.skip))) (.seq (.reg [ oC 11 0,oC 12 1,oU 13 (.lenS (.v 12)),oU 14 (.slS (.v 11) (some (.v 13)) none),oC 4 14,oU 5 (.cp (.k (.bool true)))] [4,5]) (.ret)))
def rs106 : List RV := [.t 4, .t 5]
theorem chk106 : chkFn Tryz.prog Tryz.f106 2 pc106 rs106 = true := by kernel_rfl
theorem rule106 : Rl 106 2 pc106 rs106 := rlM Tryz.func106 chk106

/-- internal/stringslite.TrimPrefix -/
def pc107 : PC := .seq (.reg [ oU 4 (.cp (.k (.str [])))] [0,1]) (.seq (.seq (.reg [ oC 5 0,oC 6 1,oU 7 (.call 118 [.v 5,.v 6])] [0,1,7]) (.cnd (.v 7) (.seq (.reg [ oC 8 0,oC 9 1,oU 10 (.lenS (.v 9)),oU 11 (.slS (.v 8) (some (.v 10)) none),oC 4 11] [4]) (.ret)) (.skip))) (.seq (.reg [ oC 12 0,oC 4 12] [4]) (.ret)))
def rs107 : List RV := [.t 4]
theorem chk107 : chkFn Tryz.prog Tryz.f107 2 pc107 rs107 = true := by kernel_rfl
theorem rule107 : Rl 107 2 pc107 rs107 := rlM Tryz.func107 chk107

/-- klippe/integer.trim -/
def pc111 : PC := .seq (.reg [ oU 2 (.nil 107)] [0]) (.seq (.blk 0 (.loop (.seq (.seq (.reg [ oC 3 0,oU 4 (.len (.v 3)),oU 5 (.ci .gtr (.v 4) (.k (.int .i64 0))),oC 6 5,⟨some 7,.cp (.v 0),(some (6,true))⟩,⟨some 8,.cp (.v 0),(some (6,true))⟩,⟨some 9,.len (.v 8),(some (6,true))⟩,⟨some 10,.ari .sub .i64 (.v 9) (.k (.int .i64 1)),(some (6,true))⟩,⟨some 11,.ia 1 (.v 7) (.v 10),(some (6,true))⟩,⟨some 12,.ld false 1 (.v 11),(some (6,true))⟩,⟨some 13,.ci .eql (.v 12) (.k (.int .u64 0)),(some (6,true))⟩,oU 14 (.pick (.v 6) (.v 13) (.k (.bool false)))] [0,14]) (.cnd (.v 14) (.skip) (.exit 0))) (.blk 1 (.reg [ oC 15 0,oC 16 0,oU 17 (.len (.v 16)),oU 18 (.ari .sub .i64 (.v 17) (.k (.int .i64 1))),oU 19 (.slc 1 (.v 15) none (some (.v 18))),oC 0 19] [0]))))) (.seq (.reg [ oC 20 0,oC 2 20] [2]) (.ret)))
def rs111 : List RV := [.t 2]
theorem chk111 : chkFn Tryz.prog Tryz.f111 1 pc111 rs111 = true := by kernel_rfl
theorem rule111 : Rl 111 1 pc111 rs111 := rlM Tryz.func111 chk111

/-- klippe/integer.small -/
def pc113 : PC := .seq (.reg [ oU 4 (.nil 107)] [0,1]) (.seq (.reg [ oC 5 0,oC 6 1,oU 7 (.bldS 107 [.int .u64 0] 1 [(0,1,.v 6)]),oU 8 (.call 111 [.v 7]),oU 9 (.call 88 [.v 5,.v 8]),oU 4 (.tk 9)] [4]) (.ret))
def rs113 : List RV := [.t 4]
theorem chk113 : chkFn Tryz.prog Tryz.f113 2 pc113 rs113 = true := by kernel_rfl
theorem rule113 : Rl 113 2 pc113 rs113 := rlM Tryz.func113 chk113

/-- strconv.FormatUint -/
def pc115 : PC := .seq (.reg [ oU 4 (.cp (.k (.str [])))] [0,1]) (.seq (.reg [ oC 5 0,oC 6 1,oU 7 (.call 137 [.v 5,.v 6]),oC 4 7] [4]) (.ret))
def rs115 : List RV := [.t 4]
theorem chk115 : chkFn Tryz.prog Tryz.f115 2 pc115 rs115 = true := by kernel_rfl
theorem rule115 : Rl 115 2 pc115 rs115 := rlM Tryz.func115 chk115

/-- internal/stringslite.HasPrefix -/
def pc118 : PC := .seq (.reg [ oU 4 (.cp (.k (.bool false)))] [0,1]) (.seq (.reg [ oC 5 0,oU 6 (.lenS (.v 5)),oC 7 1,oU 8 (.lenS (.v 7)),oU 9 (.ci .geq (.v 6) (.v 8)),oC 10 9,⟨some 11,.cp (.v 0),(some (10,true))⟩,⟨some 12,.cp (.v 1),(some (10,true))⟩,⟨some 13,.lenS (.v 12),(some (10,true))⟩,⟨some 14,.slS (.v 11) none (some (.v 13)),(some (10,true))⟩,⟨some 15,.cp (.v 1),(some (10,true))⟩,⟨some 16,.sc .eql (.v 14) (.v 15),(some (10,true))⟩,oU 17 (.pick (.v 10) (.v 16) (.k (.bool false))),oC 4 17] [4]) (.ret))
def rs118 : List RV := [.t 4]
theorem chk118 : chkFn Tryz.prog Tryz.f118 2 pc118 rs118 = true := by kernel_rfl
theorem rule118 : Rl 118 2 pc118 rs118 := rlM Tryz.func118 chk118

/-- klippe/klipperef01.Split -/
def pc120 : PC := .seq (.reg [ oU 2 (.cp (.k (.bool false))),oU 3 (.cp (.k (.str [])))] [0]) (.seq (.reg [ oC 5 0,oC 4 5] [4]) (.seq (.seq (.reg [ oC 6 4,oU 7 (.lenS (.v 6)),oU 8 (.ci .gtr (.v 7) (.k (.int .i64 0))),oC 9 8,⟨some 10,.cp (.v 4),(some (9,true))⟩,⟨some 11,.ix (.v 10) (.k (.int .i64 0)),(some (9,true))⟩,⟨some 12,.ci .eql (.v 11) (.k (.int .u8 45)),(some (9,true))⟩,oU 13 (.pick (.v 9) (.v 12) (.k (.bool false)))] [4,13]) (.cnd (.v 13) (.seq (.reg [ oC 14 4,oU 15 (.slS (.v 14) (some (.k (.int .i64 1))) none),oU 2 (.cp (.k (.bool true))),oC 3 15] [2,3]) (.ret)) (.skip))) (.seq (.reg [ oC 16 4,oU 2 (.cp (.k (.bool false))),oC 3 16] [2,3]) (.ret))))
def rs120 : List RV := [.t 2, .t 3]
theorem chk120 : chkFn Tryz.prog Tryz.f120 1 pc120 rs120 = true := by kernel_rfl
theorem rule120 : Rl 120 1 pc120 rs120 := rlM Tryz.func120 chk120

/-- klippe/klipperef01.Canonical -/
def pc121 : PC := .seq (.reg [ oU 2 (.cp (.k (.bool false)))] [0]) (.seq (.reg [ oC 7 0,oU 8 (.call 120 [.v 7]),oC 6 8,oU 9 (.ext 6 0),oU 10 (.ext 6 1),oC 3 9,oC 4 10] [3,4]) (.seq (.seq (.reg [ oU 5 (.cp (.k (.int .i64 0)))] [3,4,5]) (.blk 0 (.loop (.seq (.seq (.reg [ oC 11 5,oC 12 4,oU 13 (.lenS (.v 12)),oU 14 (.ci .lss (.v 11) (.v 13))] [3,4,5,14]) (.cnd (.v 14) (.skip) (.exit 0))) (.seq (.blk 1 (.seq (.reg [ oC 17 4,oC 18 5,oU 19 (.ix (.v 17) (.v 18)),oU 20 (.ci .lss (.v 19) (.k (.int .u8 48))),oC 21 20,⟨some 22,.cp (.v 4),(some (21,false))⟩,⟨some 23,.cp (.v 5),(some (21,false))⟩,⟨some 24,.ix (.v 22) (.v 23),(some (21,false))⟩,⟨some 25,.ci .gtr (.v 24) (.k (.int .u8 57)),(some (21,false))⟩,oU 26 (.pick (.v 21) (.k (.bool true)) (.v 25))] [3,4,5,26]) (.cnd (.v 26) (.seq (.reg [ oU 2 (.cp (.k (.bool false)))] [2]) (.ret)) (.skip)))) (.reg [ oC 15 5,oU 16 (.ari .add .i64 (.v 15) (.k (.int .i64 1))),oC 5 16] [3,4,5])))))) (.seq (.seq (.reg [ oC 27 4,oU 28 (.lenS (.v 27)),oU 29 (.ci .eql (.v 28) (.k (.int .i64 0))),oC 30 29,⟨some 31,.cp (.v 4),(some (30,false))⟩,⟨some 32,.ix (.v 31) (.k (.int .i64 0)),(some (30,false))⟩,⟨some 33,.ci .eql (.v 32) (.k (.int .u8 48)),(some (30,false))⟩,⟨some 34,.cp (.v 33),(some (30,false))⟩,⟨some 35,.cp (.v 3),(some (34,true))⟩,⟨some 36,.cp (.v 35),(some (34,true))⟩,⟨some 37,.cp (.v 4),(some (36,false))⟩,⟨some 38,.lenS (.v 37),(some (36,false))⟩,⟨some 39,.ci .gtr (.v 38) (.k (.int .i64 1)),(some (36,false))⟩,⟨some 40,.pick (.v 36) (.k (.bool true)) (.v 39),(some (34,true))⟩,⟨some 41,.pick (.v 34) (.v 40) (.k (.bool false)),(some (30,false))⟩,oU 42 (.pick (.v 30) (.k (.bool true)) (.v 41))] [42]) (.cnd (.v 42) (.seq (.reg [ oU 2 (.cp (.k (.bool false)))] [2]) (.ret)) (.skip))) (.seq (.reg [ oU 2 (.cp (.k (.bool true)))] [2]) (.ret)))))
def rs121 : List RV := [.t 2]
theorem chk121 : chkFn Tryz.prog Tryz.f121 1 pc121 rs121 = true := by kernel_rfl
theorem rule121 : Rl 121 1 pc121 rs121 := rlM Tryz.func121 chk121

/-- klippe/klipperef01.Sign -/
def pc123 : PC := .seq (.reg [ oU 2 (.cp (.k (.int .i64 0)))] [0]) (.seq (.reg [ oC 6 0,oU 7 (.call 120 [.v 6]),oC 5 7,oU 8 (.ext 5 0),oU 9 (.ext 5 1),oC 3 8,oC 4 9] [0,3]) (.seq (.seq (.reg [ oC 10 3] [0,10]) (.cnd (.v 10) (.seq (.reg [ oU 2 (.cp (.k (.int .i64 (-1))))] [2]) (.ret)) (.skip))) (.seq (.seq (.reg [ oC 11 0,oU 12 (.sc .eql (.v 11) (.k (.str [48])))] [12]) (.cnd (.v 12) (.seq (.reg [ oU 2 (.cp (.k (.int .i64 0)))] [2]) (.ret)) (.skip))) (.seq (.reg [ oU 2 (.cp (.k (.int .i64 1)))] [2]) (.ret)))))
def rs123 : List RV := [.t 2]
theorem chk123 : chkFn Tryz.prog Tryz.f123 1 pc123 rs123 = true := by kernel_rfl
theorem rule123 : Rl 123 1 pc123 rs123 := rlM Tryz.func123 chk123

/-- klippe/klipperef01.Sub -/
def pc124 : PC := .seq (.reg [ oU 4 (.cp (.k (.str [])))] [0,1]) (.seq (.reg [ oC 5 0,oC 6 1,oU 7 (.call 144 [.v 6]),oU 8 (.call 143 [.v 5,.v 7]),oC 4 8] [4]) (.ret))
def rs124 : List RV := [.t 4]
theorem chk124 : chkFn Tryz.prog Tryz.f124 2 pc124 rs124 = true := by kernel_rfl
theorem rule124 : Rl 124 2 pc124 rs124 := rlM Tryz.func124 chk124

/-- klippe/klipperef01.Abs -/
def pc125 : PC := .seq (.reg [ oU 2 (.cp (.k (.str [])))] [0]) (.seq (.reg [ oC 6 0,oU 7 (.call 120 [.v 6]),oC 5 7,oU 8 (.ext 5 0),oU 9 (.ext 5 1),oC 3 8,oC 4 9] [4]) (.seq (.reg [ oC 10 4,oC 2 10] [2]) (.ret)))
def rs125 : List RV := [.t 2]
theorem chk125 : chkFn Tryz.prog Tryz.f125 1 pc125 rs125 = true := by kernel_rfl
theorem rule125 : Rl 125 1 pc125 rs125 := rlM Tryz.func125 chk125

/-- klippe/klipperef01.DivMod -/
def pc126 : PC := .seq (.reg [ oU 4 (.cp (.k (.str []))),oU 5 (.cp (.k (.str [])))] [0,1]) (.seq (.reg [ oC 19 0,oU 20 (.call 145 [.v 19]),oC 18 20,oU 21 (.ext 18 0),oU 22 (.ext 18 1),oC 6 21,oC 7 22] [0,1,6,7]) (.seq (.reg [ oC 24 1,oU 25 (.call 145 [.v 24]),oC 23 25,oU 26 (.ext 23 0),oU 27 (.ext 23 1),oC 8 26,oC 9 27] [0,1,6,7,8,9]) (.seq (.seq (.reg [ oC 28 7,oC 29 28,⟨some 30,.cp (.v 9),(some (29,true))⟩,oU 31 (.pick (.v 29) (.v 30) (.k (.bool false)))] [0,1,6,8,31]) (.cnd (.v 31) (.seq (.reg [ oC 32 6,oC 33 8,oU 34 (.ari .quo .i64 (.v 32) (.v 33)),oC 35 6,oC 36 8,oU 37 (.ari .rem .i64 (.v 35) (.v 36)),oC 10 34,oC 11 37] [6,8,10,11]) (.seq (.seq (.reg [ oC 38 11,oU 39 (.ci .lss (.v 38) (.k (.int .i64 0)))] [6,8,10,11,39]) (.cnd (.v 39) (.seq (.reg [ oC 40 11,oC 41 8,oC 42 8,oU 43 (.ng .i64 (.v 42)),oU 44 (.mm true [.v 41,.v 43]),oU 45 (.ari .add .i64 (.v 40) (.v 44)),oC 11 45] [6,8,11]) (.reg [ oC 46 6,oC 47 11,oU 48 (.ari .sub .i64 (.v 46) (.v 47)),oC 49 8,oU 50 (.ari .quo .i64 (.v 48) (.v 49)),oC 10 50] [10,11])) (.skip))) (.seq (.reg [ oC 51 10,oU 52 (.call 146 [.v 51]),oC 53 11,oU 54 (.call 146 [.v 53]),oC 4 52,oC 5 54] [4,5]) (.ret)))) (.skip))) (.seq (.reg [ oC 56 0,oU 57 (.call 120 [.v 56]),oC 55 57,oU 58 (.ext 55 0),oU 59 (.ext 55 1),oC 12 58,oC 13 59] [1,12,13]) (.seq (.reg [ oC 61 1,oU 62 (.call 120 [.v 61]),oC 60 62,oU 63 (.ext 60 0),oU 64 (.ext 60 1),oC 14 63,oC 15 64] [12,13,14,15]) (.seq (.reg [ oC 66 13,oU 67 (.call 148 [.v 66]),oC 68 15,oU 69 (.call 148 [.v 68]),oU 70 (.call 147 [.v 67,.v 69]),oC 65 70,oU 71 (.ext 65 0),oU 72 (.ext 65 1),oC 16 71,oC 17 72] [12,14,15,16,17]) (.seq (.seq (.reg [ oC 73 12,oC 74 73,⟨some 75,.mv (.v 17),(some (74,true))⟩,⟨some 76,.len (.o 75 17),(some (74,true))⟩,⟨some 77,.ci .gtr (.v 76) (.k (.int .i64 0)),(some (74,true))⟩,oU 78 (.pick (.v 74) (.v 77) (.k (.bool false)))] [12,14,15,16,17,78]) (.cnd (.v 78) (.reg [ oU 79 (.sh (.v 16)),oU 80 (.bldS 3 [.int .i64 0] 1 [(0,1,.k (.int .i64 1))]),oU 81 (.call 149 [.v 79,.v 80,.k (.int .i64 1),.k (.int .i64 0)]),oC 82 15,oU 83 (.call 148 [.v 82]),oU 84 (.sh (.v 17)),oU 85 (.call 149 [.v 83,.v 84,.k (.int .i64 (-1)),.k (.int .i64 0)]),oU 16 (.tk 81),oU 17 (.tk 85)] [12,14,16,17]) (.skip))) (.seq (.reg [ oC 86 12,oC 87 14,oU 88 (.eqb true (.v 86) (.v 87)),oU 89 (.tk 16),oU 90 (.call 150 [.v 88,.v 89]),oU 91 (.tk 17),oU 92 (.call 150 [.k (.bool false),.v 91]),oC 4 90,oC 5 92] [4,5]) (.ret)))))))))
def rs126 : List RV := [.t 4, .t 5]
theorem chk126 : chkFn Tryz.prog Tryz.f126 2 pc126 rs126 = true := by kernel_rfl
theorem rule126 : Rl 126 2 pc126 rs126 := rlM Tryz.func126 chk126

/-- klippe/klipperef01.Add -/
def pc143 : PC := .seq (.reg [ oU 4 (.cp (.k (.str [])))] [0,1]) (.seq (.reg [ oC 16 0,oU 17 (.call 145 [.v 16]),oC 15 17,oU 18 (.ext 15 0),oU 19 (.ext 15 1),oC 5 18,oC 6 19] [0,1,5,6]) (.seq (.reg [ oC 21 1,oU 22 (.call 145 [.v 21]),oC 20 22,oU 23 (.ext 20 0),oU 24 (.ext 20 1),oC 7 23,oC 8 24] [0,1,5,6,7,8]) (.seq (.seq (.reg [ oC 25 6,oC 26 25,⟨some 27,.cp (.v 8),(some (26,true))⟩,oU 28 (.pick (.v 26) (.v 27) (.k (.bool false)))] [0,1,5,7,28]) (.cnd (.v 28) (.seq (.reg [ oC 29 5,oC 30 7,oU 31 (.ari .add .i64 (.v 29) (.v 30)),oU 32 (.call 146 [.v 31]),oC 4 32] [4]) (.ret)) (.skip))) (.seq (.reg [ oC 34 0,oU 35 (.call 120 [.v 34]),oC 33 35,oU 36 (.ext 33 0),oU 37 (.ext 33 1),oC 9 36,oC 10 37] [1,9,10]) (.seq (.reg [ oC 39 1,oU 40 (.call 120 [.v 39]),oC 38 40,oU 41 (.ext 38 0),oU 42 (.ext 38 1),oC 11 41,oC 12 42] [9,10,11,12]) (.seq (.reg [ oC 43 10,oU 44 (.call 148 [.v 43]),oC 45 12,oU 46 (.call 148 [.v 45]),oU 13 (.tk 44),oU 14 (.tk 46)] [9,11,13,14]) (.seq (.blk 0 (.seq (.reg [ oC 48 9,oC 49 11,oU 50 (.eqb false (.v 48) (.v 49)),oC 47 50] [9,11,13,14,47]) (.cnd (.v 47) (.seq (.reg [ oC 51 9,oU 52 (.tk 13),oU 53 (.tk 14),oU 54 (.call 149 [.v 52,.v 53,.k (.int .i64 1),.k (.int .i64 0)]),oU 55 (.call 150 [.v 51,.v 54]),oC 4 55] [4]) (.ret)) (.seq (.reg [ oU 57 (.mv (.v 13)),oU 58 (.mv (.v 14)),oU 59 (.call 164 [.o 57 13,.o 58 14]),oC 56 59] [9,11,13,14,56]) (.cnd (.v 56) (.seq (.reg [ oC 60 11,oU 61 (.tk 14),oU 62 (.tk 13),oU 63 (.call 149 [.v 61,.v 62,.k (.int .i64 (-1)),.k (.int .i64 0)]),oU 64 (.call 150 [.v 60,.v 63]),oC 4 64] [4]) (.ret)) (.skip)))))) (.seq (.reg [ oC 65 9,oU 66 (.tk 13),oU 67 (.tk 14),oU 68 (.call 149 [.v 66,.v 67,.k (.int .i64 (-1)),.k (.int .i64 0)]),oU 69 (.call 150 [.v 65,.v 68]),oC 4 69] [4]) (.ret)))))))))
def rs143 : List RV := [.t 4]
theorem chk143 : chkFn Tryz.prog Tryz.f143 2 pc143 rs143 = true := by kernel_rfl
theorem rule143 : Rl 143 2 pc143 rs143 := rlM Tryz.func143 chk143

/-- klippe/klipperef01.Neg -/
def pc144 : PC := .seq (.reg [ oU 2 (.cp (.k (.str [])))] [0]) (.seq (.reg [ oC 6 0,oU 7 (.call 120 [.v 6]),oC 5 7,oU 8 (.ext 5 0),oU 9 (.ext 5 1),oC 3 8,oC 4 9] [0,3,4]) (.seq (.seq (.reg [ oC 10 3,oC 11 10,⟨some 12,.cp (.v 0),(some (11,false))⟩,⟨some 13,.sc .eql (.v 12) (.k (.str [48])),(some (11,false))⟩,oU 14 (.pick (.v 11) (.k (.bool true)) (.v 13))] [4,14]) (.cnd (.v 14) (.seq (.reg [ oC 15 4,oC 2 15] [2]) (.ret)) (.skip))) (.seq (.reg [ oC 16 4,oU 17 (.cat (.k (.str [45])) (.v 16)),oC 2 17] [2]) (.ret))))
def rs144 : List RV := [.t 2]
theorem chk144 : chkFn Tryz.prog Tryz.f144 1 pc144 rs144 = true := by kernel_rfl
theorem rule144 : Rl 144 1 pc144 rs144 := rlM Tryz.func144 chk144

/-- klippe/klipperef01.brief -/
def pc145 : PC := .seq (.reg [ oU 2 (.cp (.k (.int .i64 0))),oU 3 (.cp (.k (.bool false)))] [0]) (.seq (.reg [ oC 7 0,oU 8 (.call 120 [.v 7]),oC 6 8,oU 9 (.ext 6 0),oU 10 (.ext 6 1),oC 4 9,oC 5 10] [0,5]) (.seq (.seq (.reg [ oC 11 5,oU 12 (.lenS (.v 11)),oU 13 (.ci .gtr (.v 12) (.k (.int .i64 17)))] [0,13]) (.cnd (.v 13) (.seq (.reg [ oU 2 (.cp (.k (.int .i64 0))),oU 3 (.cp (.k (.bool false)))] [2,3]) (.ret)) (.skip))) (.seq (.reg [ oC 14 0,oU 15 (.call 165 [.v 14]),oU 16 (.ext 15 0),oU 17 (.ext 15 1),oC 2 16,oC 3 17] [2,3]) (.ret))))
def rs145 : List RV := [.t 2, .t 3]
theorem chk145 : chkFn Tryz.prog Tryz.f145 1 pc145 rs145 = true := by kernel_rfl
theorem rule145 : Rl 145 1 pc145 rs145 := rlM Tryz.func145 chk145

/-- klippe/klipperef01.Of -/
def pc146 : PC := .seq (.reg [ oU 2 (.cp (.k (.str [])))] [0]) (.seq (.reg [ oC 3 0,oU 4 (.call 62 [.v 3]),oC 2 4] [2]) (.ret))
def rs146 : List RV := [.t 2]
theorem chk146 : chkFn Tryz.prog Tryz.f146 1 pc146 rs146 = true := by kernel_rfl
theorem rule146 : Rl 146 1 pc146 rs146 := rlM Tryz.func146 chk146

/-- klippe/klipperef01.parts -/
def pc147 : PC := .seq (.reg [ oU 4 (.nil 3),oU 5 (.nil 3)] [0,1]) (.seq (.reg [ oC 12 0,oU 13 (.len (.v 12)),oU 14 (.mkS 3 [.int .i64 0] 8 (.v 13) (.v 13)),oU 6 (.tk 14)] [0,1,6]) (.seq (.reg [ oU 7 (.nil 3)] [0,1,6,7]) (.seq (.seq (.reg [ oC 15 0,oU 16 (.len (.v 15)),oU 17 (.ari .sub .i64 (.v 16) (.k (.int .i64 1))),oC 8 17] [0,1,6,7,8]) (.blk 0 (.loop (.seq (.seq (.reg [ oC 18 8,oU 19 (.ci .geq (.v 18) (.k (.int .i64 0)))] [0,1,6,7,8,19]) (.cnd (.v 19) (.skip) (.exit 0))) (.seq (.blk 1 (.seq (.reg [ oC 22 0,oC 23 8,oU 24 (.ia 1 (.v 22) (.v 23)),oU 25 (.ld false 1 (.v 24)),oU 26 (.bldS 3 [.int .i64 0] 1 [(0,1,.v 25)]),oU 27 (.sh (.v 7)),oU 28 (.app 3 1 8 (.v 26) (.v 27)),oU 29 (.call 166 [.v 28]),oU 7 (.tk 29)] [0,1,6,7,8]) (.seq (.reg [ oU 9 (.cp (.k (.int .i64 0))),oU 10 (.cp (.k (.int .i64 9999)))] [0,1,6,7,8,9,10]) (.seq (.blk 2 (.loop (.seq (.seq (.reg [ oC 30 9,oC 31 10,oU 32 (.ci .lss (.v 30) (.v 31))] [0,1,6,7,8,9,10,32]) (.cnd (.v 32) (.skip) (.exit 2))) (.blk 3 (.seq (.reg [ oC 33 9,oC 34 10,oU 35 (.ari .add .i64 (.v 33) (.v 34)),oU 36 (.ari .add .i64 (.v 35) (.k (.int .i64 1))),oU 37 (.ari .quo .i64 (.v 36) (.k (.int .i64 2))),oC 11 37] [0,1,6,7,8,9,10,11]) (.seq (.reg [ oU 38 (.mv (.v 7)),oC 39 1,oC 40 11,oU 41 (.call 149 [.k (.sl 0 []),.v 39,.v 40,.k (.int .i64 0)]),oU 42 (.call 164 [.o 38 7,.v 41])] [0,1,6,7,8,9,10,11,42]) (.cnd (.v 42) (.reg [ oC 43 11,oU 44 (.ari .sub .i64 (.v 43) (.k (.int .i64 1))),oC 10 44] [0,1,6,7,8,9,10]) (.reg [ oC 45 11,oC 9 45] [0,1,6,7,8,9,10])))))))) (.seq (.reg [ oU 46 (.mv (.v 6)),oC 47 8,oC 48 9,oU 49 (.ia 1 (.o 46 6) (.v 47)),⟨none,.st 1 (.o 49 6) (.v 48),none⟩] [0,1,6,7,8,9]) (.reg [ oU 50 (.sh (.v 7)),oC 51 1,oC 52 9,oU 53 (.ng .i64 (.v 52)),oU 54 (.call 149 [.v 50,.v 51,.v 53,.k (.int .i64 0)]),oU 7 (.tk 54)] [0,1,6,7,8])))))) (.reg [ oC 20 8,oU 21 (.ari .sub .i64 (.v 20) (.k (.int .i64 1))),oC 8 21] [0,1,6,7,8])))))) (.seq (.reg [ oU 55 (.tk 6),oU 56 (.call 166 [.v 55]),oU 57 (.tk 7),oU 4 (.tk 56),oU 5 (.tk 57)] [4,5]) (.ret)))))
def rs147 : List RV := [.t 4, .t 5]
theorem chk147 : chkFn Tryz.prog Tryz.f147 2 pc147 rs147 = true := by kernel_rfl
theorem rule147 : Rl 147 2 pc147 rs147 := rlM Tryz.func147 chk147

/-- klippe/klipperef01.take -/
def pc148 : PC := .seq (.reg [ oU 2 (.nil 3)] [0]) (.seq (.reg [ oU 3 (.nil 3)] [0,3]) (.seq (.seq (.reg [ oC 7 0,oU 8 (.lenS (.v 7)),oC 4 8] [0,3,4]) (.blk 0 (.loop (.seq (.seq (.reg [ oC 9 4,oU 10 (.ci .gtr (.v 9) (.k (.int .i64 0)))] [0,3,4,10]) (.cnd (.v 10) (.skip) (.exit 0))) (.seq (.blk 1 (.seq (.reg [ oU 5 (.cp (.k (.int .i64 0)))] [0,3,4,5]) (.seq (.seq (.reg [ oC 13 4,oU 14 (.ari .sub .i64 (.v 13) (.k (.int .i64 4))),oU 15 (.mm true [.k (.int .i64 0),.v 14]),oC 6 15] [0,3,4,5,6]) (.blk 2 (.loop (.seq (.seq (.reg [ oC 16 6,oC 17 4,oU 18 (.ci .lss (.v 16) (.v 17))] [0,3,4,5,6,18]) (.cnd (.v 18) (.skip) (.exit 2))) (.seq (.blk 3 (.reg [ oC 21 5,oU 22 (.ari .mul .i64 (.k (.int .i64 10)) (.v 21)),oC 23 0,oC 24 6,oU 25 (.ix (.v 23) (.v 24)),oU 26 (.cvI .i64 (.v 25)),oU 27 (.ari .add .i64 (.v 22) (.v 26)),oU 28 (.ari .sub .i64 (.v 27) (.k (.int .i64 48))),oC 5 28] [0,3,4,5,6])) (.reg [ oC 19 6,oU 20 (.ari .add .i64 (.v 19) (.k (.int .i64 1))),oC 6 20] [0,3,4,5,6])))))) (.reg [ oU 29 (.tk 3),oC 30 5,oU 31 (.bldS 3 [.int .i64 0] 1 [(0,1,.v 30)]),oU 32 (.app 3 1 8 (.v 29) (.v 31)),oU 3 (.tk 32)] [0,3,4])))) (.reg [ oC 11 4,oU 12 (.ari .sub .i64 (.v 11) (.k (.int .i64 4))),oC 4 12] [0,3,4])))))) (.seq (.reg [ oU 33 (.tk 3),oU 34 (.call 166 [.v 33]),oU 2 (.tk 34)] [2]) (.ret))))
def rs148 : List RV := [.t 2]
theorem chk148 : chkFn Tryz.prog Tryz.f148 1 pc148 rs148 = true := by kernel_rfl
theorem rule148 : Rl 148 1 pc148 rs148 := rlM Tryz.func148 chk148

/-- klippe/klipperef01.joined -/
def pc149 : PC := .seq (.reg [ oU 8 (.nil 3)] [0,1,2,3]) (.seq (.reg [ oU 11 (.bldS 3 [.int .i64 0] 0 []),oC 12 0,oU 13 (.app 3 1 8 (.v 11) (.v 12)),oU 9 (.tk 13)] [1,2,3,9]) (.seq (.seq (.reg [ oU 10 (.cp (.k (.int .i64 0)))] [1,2,3,9,10]) (.blk 0 (.loop (.seq (.seq (.reg [ oC 14 10,oC 15 1,oU 16 (.len (.v 15)),oU 17 (.ci .lss (.v 14) (.v 16))] [1,2,3,9,10,17]) (.cnd (.v 17) (.skip) (.exit 0))) (.seq (.blk 1 (.seq (.blk 2 (.loop (.seq (.seq (.reg [ oU 20 (.mv (.v 9)),oU 21 (.len (.o 20 9)),oC 22 10,oC 23 3,oU 24 (.ari .add .i64 (.v 22) (.v 23)),oU 25 (.ci .leq (.v 21) (.v 24))] [1,2,3,9,10,25]) (.cnd (.v 25) (.skip) (.exit 2))) (.blk 3 (.reg [ oU 26 (.tk 9),oU 27 (.bldS 3 [.int .i64 0] 1 [(0,1,.k (.int .i64 0))]),oU 28 (.app 3 1 8 (.v 26) (.v 27)),oU 9 (.tk 28)] [1,2,3,9,10]))))) (.reg [ oU 29 (.mv (.v 9)),oC 30 10,oC 31 3,oU 32 (.ari .add .i64 (.v 30) (.v 31)),oU 33 (.ia 1 (.o 29 9) (.v 32)),oU 34 (.ld false 1 (.o 33 9)),oC 35 2,oC 36 1,oC 37 10,oU 38 (.ia 1 (.v 36) (.v 37)),oU 39 (.ld false 1 (.v 38)),oU 40 (.ari .mul .i64 (.v 35) (.v 39)),oU 41 (.ari .add .i64 (.v 34) (.v 40)),oU 42 (.ia 1 (.o 29 9) (.v 32)),⟨none,.st 1 (.o 42 9) (.v 41),none⟩] [1,2,3,9,10]))) (.reg [ oC 18 10,oU 19 (.ari .add .i64 (.v 18) (.k (.int .i64 1))),oC 10 19] [1,2,3,9,10])))))) (.seq (.reg [ oU 43 (.tk 9),oU 44 (.call 167 [.v 43]),oU 8 (.tk 44)] [8]) (.ret))))
def rs149 : List RV := [.t 8]
theorem chk149 : chkFn Tryz.prog Tryz.f149 4 pc149 rs149 = true := by kernel_rfl
theorem rule149 : Rl 149 4 pc149 rs149 := rlM Tryz.func149 chk149

/-- klippe/klipperef01.made -/
def pc150 : PC := .seq (.reg [ oU 4 (.cp (.k (.str [])))] [0,1]) (.seq (.reg [ oU 5 (.sh (.v 1)),oU 6 (.call 166 [.v 5]),oU 1 (.tk 6)] [0,1]) (.seq (.seq (.reg [ oC 7 0,oC 8 7,⟨some 9,.mv (.v 1),(some (8,true))⟩,⟨some 10,.len (.o 9 1),(some (8,true))⟩,⟨some 11,.ci .gtr (.v 10) (.k (.int .i64 0)),(some (8,true))⟩,oU 12 (.pick (.v 8) (.v 11) (.k (.bool false)))] [1,12]) (.cnd (.v 12) (.seq (.reg [ oU 13 (.tk 1),oU 14 (.call 168 [.v 13]),oU 15 (.cat (.k (.str [45])) (.v 14)),oC 4 15] [4]) (.ret)) (.skip))) (.seq (.reg [ oU 16 (.tk 1),oU 17 (.call 168 [.v 16]),oC 4 17] [4]) (.ret))))
def rs150 : List RV := [.t 4]
theorem chk150 : chkFn Tryz.prog Tryz.f150 2 pc150 rs150 = true := by kernel_rfl
theorem rule150 : Rl 150 2 pc150 rs150 := rlM Tryz.func150 chk150

/-- klippe/klipperef01.less -/
def pc164 : PC := .seq (.reg [ oU 4 (.cp (.k (.bool false)))] [0,1]) (.seq (.seq (.reg [ oC 6 0,oU 7 (.len (.v 6)),oC 8 1,oU 9 (.len (.v 8)),oU 10 (.ci .neq (.v 7) (.v 9))] [0,1,10]) (.cnd (.v 10) (.seq (.reg [ oC 11 0,oU 12 (.len (.v 11)),oC 13 1,oU 14 (.len (.v 13)),oU 15 (.ci .lss (.v 12) (.v 14)),oC 4 15] [4]) (.ret)) (.skip))) (.seq (.seq (.reg [ oC 16 0,oU 17 (.len (.v 16)),oU 18 (.ari .sub .i64 (.v 17) (.k (.int .i64 1))),oC 5 18] [0,1,5]) (.blk 0 (.loop (.seq (.seq (.reg [ oC 19 5,oU 20 (.ci .geq (.v 19) (.k (.int .i64 0)))] [0,1,5,20]) (.cnd (.v 20) (.skip) (.exit 0))) (.seq (.blk 1 (.seq (.reg [ oC 23 0,oC 24 5,oU 25 (.ia 1 (.v 23) (.v 24)),oU 26 (.ld false 1 (.v 25)),oC 27 1,oC 28 5,oU 29 (.ia 1 (.v 27) (.v 28)),oU 30 (.ld false 1 (.v 29)),oU 31 (.ci .neq (.v 26) (.v 30))] [0,1,5,31]) (.cnd (.v 31) (.seq (.reg [ oC 32 0,oC 33 5,oU 34 (.ia 1 (.v 32) (.v 33)),oU 35 (.ld false 1 (.v 34)),oC 36 1,oC 37 5,oU 38 (.ia 1 (.v 36) (.v 37)),oU 39 (.ld false 1 (.v 38)),oU 40 (.ci .lss (.v 35) (.v 39)),oC 4 40] [4]) (.ret)) (.skip)))) (.reg [ oC 21 5,oU 22 (.ari .sub .i64 (.v 21) (.k (.int .i64 1))),oC 5 22] [0,1,5])))))) (.seq (.reg [ oU 4 (.cp (.k (.bool false)))] [4]) (.ret))))
def rs164 : List RV := [.t 4]
theorem chk164 : chkFn Tryz.prog Tryz.f164 2 pc164 rs164 = true := by kernel_rfl
theorem rule164 : Rl 164 2 pc164 rs164 := rlM Tryz.func164 chk164

/-- klippe/klipperef01.Small -/
def pc165 : PC := .seq (.reg [ oU 2 (.cp (.k (.int .i64 0))),oU 3 (.cp (.k (.bool false)))] [0]) (.seq (.reg [ oC 10 0,oU 11 (.call 120 [.v 10]),oC 9 11,oU 12 (.ext 9 0),oU 13 (.ext 9 1),oC 4 12,oC 5 13] [4,5]) (.seq (.seq (.reg [ oC 14 5,oU 15 (.lenS (.v 14)),oU 16 (.ci .gtr (.v 15) (.k (.int .i64 19)))] [4,5,16]) (.cnd (.v 16) (.seq (.reg [ oU 2 (.cp (.k (.int .i64 0))),oU 3 (.cp (.k (.bool false)))] [2,3]) (.ret)) (.skip))) (.seq (.reg [ oU 6 (.cp (.k (.int .i64 0)))] [4,5,6]) (.seq (.seq (.reg [ oU 7 (.cp (.k (.int .i64 0)))] [4,5,6,7]) (.blk 0 (.loop (.seq (.seq (.reg [ oC 17 7,oC 18 5,oU 19 (.lenS (.v 18)),oU 20 (.ci .lss (.v 17) (.v 19))] [4,5,6,7,20]) (.cnd (.v 20) (.skip) (.exit 0))) (.seq (.blk 1 (.seq (.reg [ oC 23 5,oC 24 7,oU 25 (.ix (.v 23) (.v 24)),oU 26 (.cvI .i64 (.v 25)),oU 27 (.ari .sub .i64 (.v 26) (.k (.int .i64 48))),oC 8 27] [4,5,6,7,8]) (.seq (.seq (.reg [ oC 28 6,oC 29 8,oU 30 (.ari .add .i64 (.k (.int .i64 (-9223372036854775808))) (.v 29)),oU 31 (.ari .quo .i64 (.v 30) (.k (.int .i64 10))),oU 32 (.ci .lss (.v 28) (.v 31))] [4,5,6,7,8,32]) (.cnd (.v 32) (.seq (.reg [ oU 2 (.cp (.k (.int .i64 0))),oU 3 (.cp (.k (.bool false)))] [2,3]) (.ret)) (.skip))) (.reg [ oC 33 6,oU 34 (.ari .mul .i64 (.k (.int .i64 10)) (.v 33)),oC 35 8,oU 36 (.ari .sub .i64 (.v 34) (.v 35)),oC 6 36] [4,5,6,7])))) (.reg [ oC 21 7,oU 22 (.ari .add .i64 (.v 21) (.k (.int .i64 1))),oC 7 22] [4,5,6,7])))))) (.seq (.blk 2 (.seq (.reg [ oC 38 4,oC 37 38] [6,37]) (.cnd (.v 37) (.seq (.reg [ oC 39 6,oC 2 39,oU 3 (.cp (.k (.bool true)))] [2,3]) (.ret)) (.seq (.reg [ oC 41 6,oU 42 (.ci .eql (.v 41) (.k (.int .i64 (-9223372036854775808)))),oC 40 42] [6,40]) (.cnd (.v 40) (.seq (.reg [ oU 2 (.cp (.k (.int .i64 0))),oU 3 (.cp (.k (.bool false)))] [2,3]) (.ret)) (.skip)))))) (.seq (.reg [ oC 43 6,oU 44 (.ng .i64 (.v 43)),oC 2 44,oU 3 (.cp (.k (.bool true)))] [2,3]) (.ret)))))))
def rs165 : List RV := [.t 2, .t 3]
theorem chk165 : chkFn Tryz.prog Tryz.f165 1 pc165 rs165 = true := by kernel_rfl
theorem rule165 : Rl 165 1 pc165 rs165 := rlM Tryz.func165 chk165

/-- klippe/klipperef01.cut -/
def pc166 : PC := .seq (.reg [ oU 2 (.nil 3)] [0]) (.seq (.blk 0 (.loop (.seq (.seq (.reg [ oC 3 0,oU 4 (.len (.v 3)),oU 5 (.ci .gtr (.v 4) (.k (.int .i64 0))),oC 6 5,⟨some 7,.cp (.v 0),(some (6,true))⟩,⟨some 8,.cp (.v 0),(some (6,true))⟩,⟨some 9,.len (.v 8),(some (6,true))⟩,⟨some 10,.ari .sub .i64 (.v 9) (.k (.int .i64 1)),(some (6,true))⟩,⟨some 11,.ia 1 (.v 7) (.v 10),(some (6,true))⟩,⟨some 12,.ld false 1 (.v 11),(some (6,true))⟩,⟨some 13,.ci .eql (.v 12) (.k (.int .i64 0)),(some (6,true))⟩,oU 14 (.pick (.v 6) (.v 13) (.k (.bool false)))] [0,14]) (.cnd (.v 14) (.skip) (.exit 0))) (.blk 1 (.reg [ oC 15 0,oC 16 0,oU 17 (.len (.v 16)),oU 18 (.ari .sub .i64 (.v 17) (.k (.int .i64 1))),oU 19 (.slc 1 (.v 15) none (some (.v 18))),oC 0 19] [0]))))) (.seq (.reg [ oC 20 0,oC 2 20] [2]) (.ret)))
def rs166 : List RV := [.t 2]
theorem chk166 : chkFn Tryz.prog Tryz.f166 1 pc166 rs166 = true := by kernel_rfl
theorem rule166 : Rl 166 1 pc166 rs166 := rlM Tryz.func166 chk166

/-- klippe/klipperef01.carry -/
def pc167 : PC := .seq (.reg [ oU 2 (.nil 3)] [0]) (.seq (.reg [ oU 3 (.nil 3)] [0,3]) (.seq (.reg [ oU 4 (.cp (.k (.int .i64 0)))] [0,3,4]) (.seq (.seq (.reg [ oU 5 (.cp (.k (.int .i64 0)))] [0,3,4,5]) (.blk 0 (.loop (.seq (.seq (.reg [ oC 7 5,oC 8 0,oU 9 (.len (.v 8)),oU 10 (.ci .lss (.v 7) (.v 9)),oC 11 10,⟨some 12,.cp (.v 4),(some (11,false))⟩,⟨some 13,.ci .neq (.v 12) (.k (.int .i64 0)),(some (11,false))⟩,oU 14 (.pick (.v 11) (.k (.bool true)) (.v 13))] [0,3,4,5,14]) (.cnd (.v 14) (.skip) (.exit 0))) (.seq (.blk 1 (.seq (.seq (.reg [ oC 17 5,oC 18 0,oU 19 (.len (.v 18)),oU 20 (.ci .lss (.v 17) (.v 19))] [0,3,4,5,20]) (.cnd (.v 20) (.reg [ oC 21 4,oC 22 0,oC 23 5,oU 24 (.ia 1 (.v 22) (.v 23)),oU 25 (.ld false 1 (.v 24)),oU 26 (.ari .add .i64 (.v 21) (.v 25)),oC 4 26] [0,3,4,5]) (.skip))) (.seq (.reg [ oC 27 4,oU 28 (.ari .rem .i64 (.v 27) (.k (.int .i64 10000))),oC 6 28] [0,3,4,5,6]) (.seq (.seq (.reg [ oC 29 6,oU 30 (.ci .lss (.v 29) (.k (.int .i64 0)))] [0,3,4,5,6,30]) (.cnd (.v 30) (.reg [ oC 31 6,oU 32 (.ari .add .i64 (.v 31) (.k (.int .i64 10000))),oC 6 32] [0,3,4,5,6]) (.skip))) (.seq (.reg [ oU 33 (.tk 3),oC 34 6,oU 35 (.bldS 3 [.int .i64 0] 1 [(0,1,.v 34)]),oU 36 (.app 3 1 8 (.v 33) (.v 35)),oU 3 (.tk 36)] [0,3,4,5,6]) (.reg [ oC 37 4,oC 38 6,oU 39 (.ari .sub .i64 (.v 37) (.v 38)),oU 40 (.ari .quo .i64 (.v 39) (.k (.int .i64 10000))),oC 4 40] [0,3,4,5])))))) (.reg [ oC 15 5,oU 16 (.ari .add .i64 (.v 15) (.k (.int .i64 1))),oC 5 16] [0,3,4,5])))))) (.seq (.reg [ oU 41 (.tk 3),oU 42 (.call 166 [.v 41]),oU 2 (.tk 42)] [2]) (.ret)))))
def rs167 : List RV := [.t 2]
theorem chk167 : chkFn Tryz.prog Tryz.f167 1 pc167 rs167 = true := by kernel_rfl
theorem rule167 : Rl 167 1 pc167 rs167 := rlM Tryz.func167 chk167

/-- klippe/klipperef01.give -/
def pc168 : PC := .seq (.reg [ oU 2 (.cp (.k (.str [])))] [0]) (.seq (.seq (.reg [ oC 6 0,oU 7 (.len (.v 6)),oU 8 (.ci .eql (.v 7) (.k (.int .i64 0)))] [0,8]) (.cnd (.v 8) (.seq (.reg [ oU 2 (.cp (.k (.str [48])))] [2]) (.ret)) (.skip))) (.seq (.reg [ oC 9 0,oC 10 0,oU 11 (.len (.v 10)),oU 12 (.ari .sub .i64 (.v 11) (.k (.int .i64 1))),oU 13 (.ia 1 (.v 9) (.v 12)),oU 14 (.ld false 1 (.v 13)),oU 15 (.call 62 [.v 14]),oC 3 15] [0,3]) (.seq (.seq (.reg [ oC 16 0,oU 17 (.len (.v 16)),oU 18 (.ari .sub .i64 (.v 17) (.k (.int .i64 2))),oC 4 18] [0,3,4]) (.blk 0 (.loop (.seq (.seq (.reg [ oC 19 4,oU 20 (.ci .geq (.v 19) (.k (.int .i64 0)))] [0,3,4,20]) (.cnd (.v 20) (.skip) (.exit 0))) (.seq (.blk 1 (.seq (.reg [ oC 23 0,oC 24 4,oU 25 (.ia 1 (.v 23) (.v 24)),oU 26 (.ld false 1 (.v 25)),oU 27 (.ari .add .i64 (.k (.int .i64 10000)) (.v 26)),oU 28 (.call 62 [.v 27]),oC 5 28] [0,3,4,5]) (.reg [ oC 29 3,oC 30 5,oU 31 (.slS (.v 30) (some (.k (.int .i64 1))) none),oU 32 (.cat (.v 29) (.v 31)),oC 3 32] [0,3,4]))) (.reg [ oC 21 4,oU 22 (.ari .sub .i64 (.v 21) (.k (.int .i64 1))),oC 4 22] [0,3,4])))))) (.seq (.reg [ oC 33 3,oC 2 33] [2]) (.ret)))))
def rs168 : List RV := [.t 2]
theorem chk168 : chkFn Tryz.prog Tryz.f168 1 pc168 rs168 = true := by kernel_rfl
theorem rule168 : Rl 168 1 pc168 rs168 := rlM Tryz.func168 chk168

def tabL : List (Nat × PC × List RV × Nat) := [(3, pc3, rs3, 2), (4, pc4, rs4, 0), (5, pc5, rs5, 2), (6, pc6, rs6, 2), (8, pc8, rs8, 2), (9, pc9, rs9, 3), (10, pc10, rs10, 2), (11, pc11, rs11, 2), (13, pc13, rs13, 1), (14, pc14, rs14, 2), (15, pc15, rs15, 1), (16, pc16, rs16, 4), (19, pc19, rs19, 4), (20, pc20, rs20, 2), (22, pc22, rs22, 2), (23, pc23, rs23, 1), (24, pc24, rs24, 3), (25, pc25, rs25, 1), (26, pc26, rs26, 4), (27, pc27, rs27, 2), (28, pc28, rs28, 1), (29, pc29, rs29, 1), (30, pc30, rs30, 1), (32, pc32, rs32, 1), (33, pc33, rs33, 3), (34, pc34, rs34, 2), (36, pc36, rs36, 1), (37, pc37, rs37, 1), (38, pc38, rs38, 2), (39, pc39, rs39, 1), (40, pc40, rs40, 1), (41, pc41, rs41, 2), (42, pc42, rs42, 2), (43, pc43, rs43, 2), (44, pc44, rs44, 2), (47, pc47, rs47, 2), (48, pc48, rs48, 3), (49, pc49, rs49, 4), (50, pc50, rs50, 3), (51, pc51, rs51, 2), (52, pc52, rs52, 1), (53, pc53, rs53, 2), (54, pc54, rs54, 1), (55, pc55, rs55, 2), (56, pc56, rs56, 2), (57, pc57, rs57, 1), (58, pc58, rs58, 1), (59, pc59, rs59, 2), (60, pc60, rs60, 1), (61, pc61, rs61, 2), (63, pc63, rs63, 1), (64, pc64, rs64, 1), (65, pc65, rs65, 2), (66, pc66, rs66, 1), (67, pc67, rs67, 2), (68, pc68, rs68, 2), (79, pc79, rs79, 4), (80, pc80, rs80, 2), (81, pc81, rs81, 2), (82, pc82, rs82, 2), (84, pc84, rs84, 2), (85, pc85, rs85, 1), (88, pc88, rs88, 2), (89, pc89, rs89, 2), (90, pc90, rs90, 2), (92, pc92, rs92, 1), (93, pc93, rs93, 1), (94, pc94, rs94, 2), (95, pc95, rs95, 2), (96, pc96, rs96, 2), (97, pc97, rs97, 2), (98, pc98, rs98, 2), (99, pc99, rs99, 2), (106, pc106, rs106, 2), (107, pc107, rs107, 2), (111, pc111, rs111, 1), (113, pc113, rs113, 2), (115, pc115, rs115, 2), (118, pc118, rs118, 2), (120, pc120, rs120, 1), (121, pc121, rs121, 1), (123, pc123, rs123, 1), (124, pc124, rs124, 2), (125, pc125, rs125, 1), (126, pc126, rs126, 2), (143, pc143, rs143, 2), (144, pc144, rs144, 1), (145, pc145, rs145, 1), (146, pc146, rs146, 1), (147, pc147, rs147, 2), (148, pc148, rs148, 1), (149, pc149, rs149, 4), (150, pc150, rs150, 2), (164, pc164, rs164, 2), (165, pc165, rs165, 1), (166, pc166, rs166, 1), (167, pc167, rs167, 1), (168, pc168, rs168, 1)]
def tabFn (f : Nat) : Option (PC × List RV × Nat) := (tabL.find? (fun e => e.1 == f)).map (·.2)
theorem tabL_ok : ∀ e ∈ tabL, ∃ fn, Tryz.prog.funcs[e.1]? = some fn ∧ chkFn Tryz.prog fn e.2.2.2 e.2.1 e.2.2.1 = true := by
  intro e he
  simp only [tabL, List.mem_cons, List.not_mem_nil, or_false] at he
  rcases he with rfl | rfl | rfl | rfl | rfl | rfl | rfl | rfl | rfl | rfl | rfl | rfl | rfl | rfl | rfl | rfl | rfl | rfl | rfl | rfl | rfl | rfl | rfl | rfl | rfl | rfl | rfl | rfl | rfl | rfl | rfl | rfl | rfl | rfl | rfl | rfl | rfl | rfl | rfl | rfl | rfl | rfl | rfl | rfl | rfl | rfl | rfl | rfl | rfl | rfl | rfl | rfl | rfl | rfl | rfl | rfl | rfl | rfl | rfl | rfl | rfl | rfl | rfl | rfl | rfl | rfl | rfl | rfl | rfl | rfl | rfl | rfl | rfl | rfl | rfl | rfl | rfl | rfl | rfl | rfl | rfl | rfl | rfl | rfl | rfl | rfl | rfl | rfl | rfl | rfl | rfl | rfl | rfl | rfl | rfl | rfl | rfl | rfl
  · exact ⟨_, Tryz.func3, chk3⟩
  · exact ⟨_, Tryz.func4, chk4⟩
  · exact ⟨_, Tryz.func5, chk5⟩
  · exact ⟨_, Tryz.func6, chk6⟩
  · exact ⟨_, Tryz.func8, chk8⟩
  · exact ⟨_, Tryz.func9, chk9⟩
  · exact ⟨_, Tryz.func10, chk10⟩
  · exact ⟨_, Tryz.func11, chk11⟩
  · exact ⟨_, Tryz.func13, chk13⟩
  · exact ⟨_, Tryz.func14, chk14⟩
  · exact ⟨_, Tryz.func15, chk15⟩
  · exact ⟨_, Tryz.func16, chk16⟩
  · exact ⟨_, Tryz.func19, chk19⟩
  · exact ⟨_, Tryz.func20, chk20⟩
  · exact ⟨_, Tryz.func22, chk22⟩
  · exact ⟨_, Tryz.func23, chk23⟩
  · exact ⟨_, Tryz.func24, chk24⟩
  · exact ⟨_, Tryz.func25, chk25⟩
  · exact ⟨_, Tryz.func26, chk26⟩
  · exact ⟨_, Tryz.func27, chk27⟩
  · exact ⟨_, Tryz.func28, chk28⟩
  · exact ⟨_, Tryz.func29, chk29⟩
  · exact ⟨_, Tryz.func30, chk30⟩
  · exact ⟨_, Tryz.func32, chk32⟩
  · exact ⟨_, Tryz.func33, chk33⟩
  · exact ⟨_, Tryz.func34, chk34⟩
  · exact ⟨_, Tryz.func36, chk36⟩
  · exact ⟨_, Tryz.func37, chk37⟩
  · exact ⟨_, Tryz.func38, chk38⟩
  · exact ⟨_, Tryz.func39, chk39⟩
  · exact ⟨_, Tryz.func40, chk40⟩
  · exact ⟨_, Tryz.func41, chk41⟩
  · exact ⟨_, Tryz.func42, chk42⟩
  · exact ⟨_, Tryz.func43, chk43⟩
  · exact ⟨_, Tryz.func44, chk44⟩
  · exact ⟨_, Tryz.func47, chk47⟩
  · exact ⟨_, Tryz.func48, chk48⟩
  · exact ⟨_, Tryz.func49, chk49⟩
  · exact ⟨_, Tryz.func50, chk50⟩
  · exact ⟨_, Tryz.func51, chk51⟩
  · exact ⟨_, Tryz.func52, chk52⟩
  · exact ⟨_, Tryz.func53, chk53⟩
  · exact ⟨_, Tryz.func54, chk54⟩
  · exact ⟨_, Tryz.func55, chk55⟩
  · exact ⟨_, Tryz.func56, chk56⟩
  · exact ⟨_, Tryz.func57, chk57⟩
  · exact ⟨_, Tryz.func58, chk58⟩
  · exact ⟨_, Tryz.func59, chk59⟩
  · exact ⟨_, Tryz.func60, chk60⟩
  · exact ⟨_, Tryz.func61, chk61⟩
  · exact ⟨_, Tryz.func63, chk63⟩
  · exact ⟨_, Tryz.func64, chk64⟩
  · exact ⟨_, Tryz.func65, chk65⟩
  · exact ⟨_, Tryz.func66, chk66⟩
  · exact ⟨_, Tryz.func67, chk67⟩
  · exact ⟨_, Tryz.func68, chk68⟩
  · exact ⟨_, Tryz.func79, chk79⟩
  · exact ⟨_, Tryz.func80, chk80⟩
  · exact ⟨_, Tryz.func81, chk81⟩
  · exact ⟨_, Tryz.func82, chk82⟩
  · exact ⟨_, Tryz.func84, chk84⟩
  · exact ⟨_, Tryz.func85, chk85⟩
  · exact ⟨_, Tryz.func88, chk88⟩
  · exact ⟨_, Tryz.func89, chk89⟩
  · exact ⟨_, Tryz.func90, chk90⟩
  · exact ⟨_, Tryz.func92, chk92⟩
  · exact ⟨_, Tryz.func93, chk93⟩
  · exact ⟨_, Tryz.func94, chk94⟩
  · exact ⟨_, Tryz.func95, chk95⟩
  · exact ⟨_, Tryz.func96, chk96⟩
  · exact ⟨_, Tryz.func97, chk97⟩
  · exact ⟨_, Tryz.func98, chk98⟩
  · exact ⟨_, Tryz.func99, chk99⟩
  · exact ⟨_, Tryz.func106, chk106⟩
  · exact ⟨_, Tryz.func107, chk107⟩
  · exact ⟨_, Tryz.func111, chk111⟩
  · exact ⟨_, Tryz.func113, chk113⟩
  · exact ⟨_, Tryz.func115, chk115⟩
  · exact ⟨_, Tryz.func118, chk118⟩
  · exact ⟨_, Tryz.func120, chk120⟩
  · exact ⟨_, Tryz.func121, chk121⟩
  · exact ⟨_, Tryz.func123, chk123⟩
  · exact ⟨_, Tryz.func124, chk124⟩
  · exact ⟨_, Tryz.func125, chk125⟩
  · exact ⟨_, Tryz.func126, chk126⟩
  · exact ⟨_, Tryz.func143, chk143⟩
  · exact ⟨_, Tryz.func144, chk144⟩
  · exact ⟨_, Tryz.func145, chk145⟩
  · exact ⟨_, Tryz.func146, chk146⟩
  · exact ⟨_, Tryz.func147, chk147⟩
  · exact ⟨_, Tryz.func148, chk148⟩
  · exact ⟨_, Tryz.func149, chk149⟩
  · exact ⟨_, Tryz.func150, chk150⟩
  · exact ⟨_, Tryz.func164, chk164⟩
  · exact ⟨_, Tryz.func165, chk165⟩
  · exact ⟨_, Tryz.func166, chk166⟩
  · exact ⟨_, Tryz.func167, chk167⟩
  · exact ⟨_, Tryz.func168, chk168⟩
theorem tabFn_ok (f : Nat) (pc : PC) (rs : List RV) (np : Nat) (h : tabFn f = some (pc, rs, np)) : ∃ fn, Tryz.prog.funcs[f]? = some fn ∧ chkFn Tryz.prog fn np pc rs = true := by
  unfold tabFn at h
  rw [Option.map_eq_some_iff] at h
  obtain ⟨e, h1, h2⟩ := h
  have h3 := List.find?_some h1
  simp only [beq_iff_eq] at h3
  obtain ⟨fn, h4, h5⟩ := tabL_ok e (List.mem_of_find?_eq_some h1)
  rw [h2] at h5
  exact ⟨fn, by rw [← h3]; exact h4, h5⟩

end Go.Proofs
