/- The pure readings of functions of this seat, printed by program (pcfile.py). Own work. -/
import Derived.Test.YtijkmdpdedagdaaGreatDoorProg
import Derived.Test.YtijkmdpdedagdaaGreatDoorRa
import Derived.Test.YtijkmdpdedagdaaGreatDoorPj
import Derived.KernelRfl
namespace Go.Proofs
open Go Go.Pi Go.RowKit
set_option maxRecDepth 100000
set_option linter.unusedVariables false
set_option linter.unusedSimpArgs false
/-- cmp.Compare[string] -/
def pc47 : PC := .seq (.reg [ oU 4 (.cp (.k (.int .i64 0)))] [0,1]) (.seq (.reg [ oC 7 0,oU 8 (.call 66 [.v 7]),oC 5 8] [0,1,5]) (.seq (.reg [ oC 9 1,oU 10 (.call 66 [.v 9]),oC 6 10] [0,1,5,6]) (.seq (.seq (.reg [ oC 11 5] [0,1,6,11]) (.cnd (.v 11) (.seq (.seq (.reg [ oC 12 6] [12]) (.cnd (.v 12) (.seq (.reg [ oU 4 (.cp (.k (.int .i64 0)))] [4]) (.ret)) (.skip))) (.seq (.reg [ oU 4 (.cp (.k (.int .i64 (-1))))] [4]) (.ret))) (.skip))) (.seq (.seq (.reg [ oC 13 6] [0,1,13]) (.cnd (.v 13) (.seq (.reg [ oU 4 (.cp (.k (.int .i64 1)))] [4]) (.ret)) (.skip))) (.seq (.seq (.reg [ oC 14 0,oC 15 1,oU 16 (.sc .lss (.v 14) (.v 15))] [0,1,16]) (.cnd (.v 16) (.seq (.reg [ oU 4 (.cp (.k (.int .i64 (-1))))] [4]) (.ret)) (.skip))) (.seq (.seq (.reg [ oC 17 0,oC 18 1,oU 19 (.sc .gtr (.v 17) (.v 18))] [19]) (.cnd (.v 19) (.seq (.reg [ oU 4 (.cp (.k (.int .i64 1)))] [4]) (.ret)) (.skip))) (.seq (.reg [ oU 4 (.cp (.k (.int .i64 0)))] [4]) (.ret))))))))
def rs47 : List RV := [.t 4]
theorem chk47 : chkFn Tryz.prog Tryz.f47 2 pc47 rs47 = true := by kernel_rfl
theorem rule47 : RuL 47 2 pc47 rs47 := rlM Tryz.func47 chk47

/-- klippe/relation.compare -/
def pc51 : PC := .seq (.reg [ oU 2 (.bx 3 (.v 0)),oU 3 (.bx 3 (.v 1)),oU 4 (.cp (.k (.int .i64 0)))] [2,3]) (.seq (.reg [ oU 5 (.fa 0 (.v 2)),oU 6 (.ld false 1 (.o 5 2)),oU 7 (.fa 0 (.v 3)),oU 8 (.ld false 1 (.o 7 3)),oU 9 (.call 68 [.v 6,.v 8]),oU 10 (.fa 1 (.v 2)),oU 11 (.ld false 1 (.o 10 2)),oU 12 (.fa 1 (.v 3)),oU 13 (.ld false 1 (.o 12 3)),oU 14 (.call 47 [.v 11,.v 13]),oU 15 (.fa 2 (.v 2)),oU 16 (.ld false 1 (.o 15 2)),oU 17 (.fa 2 (.v 3)),oU 18 (.ld false 1 (.o 17 3)),oU 19 (.call 47 [.v 16,.v 18]),oU 20 (.bldS 3 [.int .i64 0] 3 [(0,1,.v 9),(1,1,.v 14),(2,1,.v 19)]),oU 21 (.call 46 [.v 20]),oC 4 21] [4]) (.ret))
def rs51 : List RV := [.t 4]
theorem chk51 : chkFn Tryz.prog Tryz.f51 2 pc51 rs51 = true := by kernel_rfl
theorem rule51 : RuL 51 2 pc51 rs51 := rlM Tryz.func51 chk51

/-- strings.CutPrefix -/
def pc53 : PC := .seq (.reg [ oU 4 (.cp (.k (.str []))),oU 5 (.cp (.k (.bool false)))] [0,1]) (.seq (.reg [ oC 6 0,oC 7 1,oU 8 (.call 69 [.v 6,.v 7]),oU 9 (.ext 8 0),oU 10 (.ext 8 1),oC 4 9,oC 5 10] [4,5]) (.ret))
def rs53 : List RV := [.t 4, .t 5]
theorem chk53 : chkFn Tryz.prog Tryz.f53 2 pc53 rs53 = true := by kernel_rfl
theorem rule53 : RuL 53 2 pc53 rs53 := rlM Tryz.func53 chk53

/-- strings.Cut -/
def pc54 : PC := .seq (.reg [ oU 4 (.cp (.k (.str []))),oU 5 (.cp (.k (.str []))),oU 6 (.cp (.k (.bool false)))] [0,1]) (.seq (.reg [ oC 7 0,oC 8 1,oU 9 (.call 70 [.v 7,.v 8]),oU 10 (.ext 9 0),oU 11 (.ext 9 1),oU 12 (.ext 9 2),oC 4 10,oC 5 11,oC 6 12] [4,5,6]) (.ret))
def rs54 : List RV := [.t 4, .t 5, .t 6]
theorem chk54 : chkFn Tryz.prog Tryz.f54 2 pc54 rs54 = true := by kernel_rfl
theorem rule54 : RuL 54 2 pc54 rs54 := rlM Tryz.func54 chk54

/-- klippe/checker.digits -/
def pc55 : PC := .seq (.reg [ oU 2 (.nil 110),oU 3 (.cp (.k (.bool false)))] [0]) (.seq (.seq (.reg [ oC 6 0,oU 7 (.sc .eql (.v 6) (.k (.str []))),oC 8 7,⟨some 9,.cp (.v 0),(some (8,false))⟩,⟨some 10,.lenS (.v 9),(some (8,false))⟩,⟨some 11,.ci .gtr (.v 10) (.k (.int .i64 200)),(some (8,false))⟩,oU 12 (.pick (.v 8) (.k (.bool true)) (.v 11)),oC 13 12,⟨some 14,.cp (.v 0),(some (13,false))⟩,⟨some 15,.ix (.v 14) (.k (.int .i64 0)),(some (13,false))⟩,⟨some 16,.ci .eql (.v 15) (.k (.int .u8 48)),(some (13,false))⟩,⟨some 17,.cp (.v 16),(some (13,false))⟩,⟨some 18,.cp (.v 0),(some (17,true))⟩,⟨some 19,.lenS (.v 18),(some (17,true))⟩,⟨some 20,.ci .gtr (.v 19) (.k (.int .i64 1)),(some (17,true))⟩,⟨some 21,.pick (.v 17) (.v 20) (.k (.bool false)),(some (13,false))⟩,oU 22 (.pick (.v 13) (.k (.bool true)) (.v 21))] [0,22]) (.cnd (.v 22) (.seq (.reg [ oU 2 (.nil 110),oU 3 (.cp (.k (.bool false)))] [2,3]) (.ret)) (.skip))) (.seq (.reg [ oU 4 (.nil 110)] [0,4]) (.seq (.seq (.reg [ oC 23 0,oU 24 (.lenS (.v 23)),oU 25 (.cp (.k (.int .i64 0)))] [0,4,24,25]) (.blk 0 (.loop (.seq (.reg [ oU 26 (.ci .lss (.v 25) (.v 24))] [0,4,24,25,26]) (.seq (.cnd (.v 26) (.skip) (.exit 0)) (.seq (.blk 1 (.seq (.reg [ oC 27 25,oC 5 27] [0,4,5,24,25]) (.seq (.seq (.reg [ oC 28 0,oC 29 5,oU 30 (.ix (.v 28) (.v 29)),oU 31 (.ci .lss (.v 30) (.k (.int .u8 48))),oC 32 31,⟨some 33,.cp (.v 0),(some (32,false))⟩,⟨some 34,.cp (.v 5),(some (32,false))⟩,⟨some 35,.ix (.v 33) (.v 34),(some (32,false))⟩,⟨some 36,.ci .gtr (.v 35) (.k (.int .u8 57)),(some (32,false))⟩,oU 37 (.pick (.v 32) (.k (.bool true)) (.v 36))] [0,4,5,24,25,37]) (.cnd (.v 37) (.seq (.reg [ oU 2 (.nil 110),oU 3 (.cp (.k (.bool false)))] [2,3]) (.ret)) (.skip))) (.reg [ oU 38 (.sh (.v 4)),oU 39 (.bldS 110 [.int .u32 0] 1 [(0,1,.k (.int .u32 10))]),oU 40 (.call 71 [.v 38,.v 39]),oC 41 0,oC 42 5,oU 43 (.ix (.v 41) (.v 42)),oU 44 (.ari .sub .u8 (.v 43) (.k (.int .u8 48))),oU 45 (.cvI .u32 (.v 44)),oU 46 (.bldS 110 [.int .u32 0] 1 [(0,1,.v 45)]),oU 47 (.call 73 [.v 46]),oU 48 (.call 72 [.v 40,.v 47]),oU 4 (.tk 48)] [0,4,24,25])))) (.reg [ oU 49 (.ari .add .i64 (.v 25) (.k (.int .i64 1))),oC 25 49] [0,4,24,25]))))))) (.seq (.reg [ oU 50 (.tk 4),oU 2 (.tk 50),oU 3 (.cp (.k (.bool true)))] [2,3]) (.ret)))))
def rs55 : List RV := [.t 2, .t 3]
theorem chk55 : chkFn Tryz.prog Tryz.f55 1 pc55 rs55 = true := by kernel_rfl
theorem rule55 : RuL 55 1 pc55 rs55 := rlM Tryz.func55 chk55

/-- (klippe/checker.natural).compare -/
def pc56 : PC := .seq (.reg [ oU 4 (.cp (.k (.int .i64 0)))] [0,1]) (.seq (.seq (.reg [ oC 6 0,oU 7 (.len (.v 6)),oC 8 1,oU 9 (.len (.v 8)),oU 10 (.ci .neq (.v 7) (.v 9))] [0,1,10]) (.cnd (.v 10) (.seq (.reg [ oC 11 0,oU 12 (.len (.v 11)),oC 13 1,oU 14 (.len (.v 13)),oU 15 (.ari .sub .i64 (.v 12) (.v 14)),oC 4 15] [4]) (.ret)) (.skip))) (.seq (.seq (.reg [ oC 16 0,oU 17 (.len (.v 16)),oU 18 (.ari .sub .i64 (.v 17) (.k (.int .i64 1))),oC 5 18] [0,1,5]) (.blk 0 (.loop (.seq (.seq (.reg [ oC 19 5,oU 20 (.ci .geq (.v 19) (.k (.int .i64 0)))] [0,1,5,20]) (.cnd (.v 20) (.skip) (.exit 0))) (.seq (.blk 1 (.blk 2 (.seq (.reg [ oC 24 0,oC 25 5,oU 26 (.ia 1 (.v 24) (.v 25)),oU 27 (.ld false 1 (.v 26)),oC 28 1,oC 29 5,oU 30 (.ia 1 (.v 28) (.v 29)),oU 31 (.ld false 1 (.v 30)),oU 32 (.ci .lss (.v 27) (.v 31)),oC 23 32] [0,1,5,23]) (.cnd (.v 23) (.seq (.reg [ oU 4 (.cp (.k (.int .i64 (-1))))] [4]) (.ret)) (.seq (.reg [ oC 34 0,oC 35 5,oU 36 (.ia 1 (.v 34) (.v 35)),oU 37 (.ld false 1 (.v 36)),oC 38 1,oC 39 5,oU 40 (.ia 1 (.v 38) (.v 39)),oU 41 (.ld false 1 (.v 40)),oU 42 (.ci .gtr (.v 37) (.v 41)),oC 33 42] [0,1,5,33]) (.cnd (.v 33) (.seq (.reg [ oU 4 (.cp (.k (.int .i64 1)))] [4]) (.ret)) (.skip))))))) (.reg [ oC 21 5,oU 22 (.ari .sub .i64 (.v 21) (.k (.int .i64 1))),oC 5 22] [0,1,5])))))) (.seq (.reg [ oU 4 (.cp (.k (.int .i64 0)))] [4]) (.ret))))
def rs56 : List RV := [.t 4]
theorem chk56 : chkFn Tryz.prog Tryz.f56 2 pc56 rs56 = true := by kernel_rfl
theorem rule56 : RuL 56 2 pc56 rs56 := rlM Tryz.func56 chk56

/-- (klippe/checker.natural).gcd -/
def pc57 : PC := .seq (.reg [ oU 4 (.nil 110)] [0,1]) (.seq (.reg [ oU 5 (.cp (.k (.int .i64 0)))] [0,1,5]) (.seq (.blk 0 (.loop (.seq (.seq (.reg [ oU 6 (.mv (.v 0)),oU 7 (.call 74 [.o 6 0]),oU 8 (.not (.v 7)),oC 9 8,⟨some 10,.mv (.v 1),(some (9,true))⟩,⟨some 11,.call 74 [.o 10 1],(some (9,true))⟩,⟨some 12,.not (.v 11),(some (9,true))⟩,oU 13 (.pick (.v 9) (.v 12) (.k (.bool false)))] [0,1,5,13]) (.cnd (.v 13) (.skip) (.exit 0))) (.blk 1 (.seq (.reg [ oU 14 (.sh (.v 0)),oU 15 (.call 75 [.v 14]),oU 16 (.sh (.v 1)),oU 17 (.call 75 [.v 16]),oU 0 (.tk 15),oU 1 (.tk 17)] [0,1,5]) (.reg [ oC 18 5,oU 19 (.ari .add .i64 (.v 18) (.k (.int .i64 1))),oC 5 19] [0,1,5])))))) (.seq (.blk 2 (.loop (.seq (.seq (.reg [ oU 20 (.mv (.v 0)),oU 21 (.len (.o 20 0)),oU 22 (.ci .gtr (.v 21) (.k (.int .i64 0)))] [0,1,5,22]) (.cnd (.v 22) (.skip) (.exit 2))) (.blk 3 (.seq (.blk 4 (.loop (.seq (.seq (.reg [ oU 23 (.mv (.v 0)),oU 24 (.call 74 [.o 23 0]),oU 25 (.not (.v 24))] [0,1,5,25]) (.cnd (.v 25) (.skip) (.exit 4))) (.blk 5 (.reg [ oU 26 (.sh (.v 0)),oU 27 (.call 75 [.v 26]),oU 0 (.tk 27)] [0,1,5]))))) (.seq (.blk 6 (.loop (.seq (.seq (.reg [ oU 28 (.mv (.v 1)),oU 29 (.call 74 [.o 28 1]),oU 30 (.not (.v 29))] [0,1,5,30]) (.cnd (.v 30) (.skip) (.exit 6))) (.blk 7 (.reg [ oU 31 (.sh (.v 1)),oU 32 (.call 75 [.v 31]),oU 1 (.tk 32)] [0,1,5]))))) (.seq (.seq (.reg [ oU 33 (.mv (.v 0)),oU 34 (.mv (.v 1)),oU 35 (.call 56 [.o 33 0,.o 34 1]),oU 36 (.ci .lss (.v 35) (.k (.int .i64 0)))] [0,1,5,36]) (.cnd (.v 36) (.reg [ oU 37 (.sh (.v 1)),oU 38 (.sh (.v 0)),oU 0 (.tk 37),oU 1 (.tk 38)] [0,1,5]) (.skip))) (.reg [ oU 39 (.sh (.v 0)),oU 40 (.mv (.v 1)),oU 41 (.call 76 [.v 39,.o 40 1]),oU 0 (.tk 41)] [0,1,5])))))))) (.seq (.seq (.reg [ oC 42 5,oU 43 (.cp (.k (.int .i64 0)))] [1,42,43]) (.blk 8 (.loop (.seq (.reg [ oU 44 (.ci .lss (.v 43) (.v 42))] [1,42,43,44]) (.seq (.cnd (.v 44) (.skip) (.exit 8)) (.seq (.blk 9 (.reg [ oU 45 (.sh (.v 1)),oU 46 (.sh (.v 1)),oU 47 (.call 72 [.v 45,.v 46]),oU 1 (.tk 47)] [1,42,43])) (.reg [ oU 48 (.ari .add .i64 (.v 43) (.k (.int .i64 1))),oC 43 48] [1,42,43]))))))) (.seq (.reg [ oU 49 (.tk 1),oU 4 (.tk 49)] [4]) (.ret))))))
def rs57 : List RV := [.t 4]
theorem chk57 : chkFn Tryz.prog Tryz.f57 2 pc57 rs57 = true := by kernel_rfl
theorem rule57 : RuL 57 2 pc57 rs57 := rlM Tryz.func57 chk57

/-- klippe/relation.IsName -/
def pc58 : PC := .seq (.reg [ oU 2 (.cp (.k (.bool false)))] [0]) (.seq (.seq (.reg [ oC 7 0,oU 8 (.sc .eql (.v 7) (.k (.str []))),oC 9 8,⟨some 10,.cp (.v 0),(some (9,false))⟩,⟨some 11,.lenS (.v 10),(some (9,false))⟩,⟨some 12,.ci .gtr (.v 11) (.k (.int .i64 32)),(some (9,false))⟩,oU 13 (.pick (.v 9) (.k (.bool true)) (.v 12))] [0,13]) (.cnd (.v 13) (.seq (.reg [ oU 2 (.cp (.k (.bool false)))] [2]) (.ret)) (.skip))) (.seq (.seq (.reg [ oC 14 0,oU 15 (.cvSB (.v 14)),oU 16 (.len (.v 15)),oU 17 (.cp (.k (.int .i64 0)))] [15,16,17]) (.blk 0 (.loop (.seq (.reg [ oU 18 (.ci .lss (.v 17) (.v 16))] [15,16,17,18]) (.seq (.cnd (.v 18) (.skip) (.exit 0)) (.seq (.blk 1 (.seq (.reg [ oC 19 17,oU 20 (.ia 1 (.v 15) (.v 17)),oU 21 (.ld false 1 (.o 20 15)),oC 3 19,oC 4 21] [3,4,15,16,17]) (.seq (.reg [ oC 22 4,oU 23 (.ci .leq (.k (.int .u8 97)) (.v 22)),oC 24 23,⟨some 25,.cp (.v 4),(some (24,true))⟩,⟨some 26,.ci .leq (.v 25) (.k (.int .u8 122)),(some (24,true))⟩,oU 27 (.pick (.v 24) (.v 26) (.k (.bool false))),oC 28 27,⟨some 29,.cp (.v 4),(some (28,false))⟩,⟨some 30,.ci .leq (.k (.int .u8 65)) (.v 29),(some (28,false))⟩,⟨some 31,.cp (.v 30),(some (28,false))⟩,⟨some 32,.cp (.v 4),(some (31,true))⟩,⟨some 33,.ci .leq (.v 32) (.k (.int .u8 90)),(some (31,true))⟩,⟨some 34,.pick (.v 31) (.v 33) (.k (.bool false)),(some (28,false))⟩,oU 35 (.pick (.v 28) (.k (.bool true)) (.v 34)),oC 5 35] [3,4,5,15,16,17]) (.seq (.reg [ oC 36 4,oU 37 (.ci .leq (.k (.int .u8 48)) (.v 36)),oC 38 37,⟨some 39,.cp (.v 4),(some (38,true))⟩,⟨some 40,.ci .leq (.v 39) (.k (.int .u8 57)),(some (38,true))⟩,oU 41 (.pick (.v 38) (.v 40) (.k (.bool false))),oC 42 41,⟨some 43,.cp (.v 4),(some (42,false))⟩,⟨some 44,.ci .eql (.v 43) (.k (.int .u8 95)),(some (42,false))⟩,oU 45 (.pick (.v 42) (.k (.bool true)) (.v 44)),oC 6 45] [3,5,6,15,16,17]) (.seq (.reg [ oC 46 5,oU 47 (.not (.v 46)),oC 48 47,⟨some 49,.cp (.v 3),(some (48,true))⟩,⟨some 50,.ci .eql (.v 49) (.k (.int .i64 0)),(some (48,true))⟩,⟨some 51,.cp (.v 50),(some (48,true))⟩,⟨some 52,.cp (.v 6),(some (51,false))⟩,⟨some 53,.not (.v 52),(some (51,false))⟩,⟨some 54,.pick (.v 51) (.k (.bool true)) (.v 53),(some (48,true))⟩,oU 55 (.pick (.v 48) (.v 54) (.k (.bool false)))] [15,16,17,55]) (.cnd (.v 55) (.seq (.reg [ oU 2 (.cp (.k (.bool false)))] [2]) (.ret)) (.skip))))))) (.reg [ oU 56 (.ari .add .i64 (.v 17) (.k (.int .i64 1))),oC 17 56] [15,16,17]))))))) (.seq (.reg [ oU 2 (.cp (.k (.bool true)))] [2]) (.ret))))
def rs58 : List RV := [.t 2]
theorem chk58 : chkFn Tryz.prog Tryz.f58 1 pc58 rs58 = true := by kernel_rfl
theorem rule58 : RuL 58 1 pc58 rs58 := rlM Tryz.func58 chk58

/-- math/bits.Len -/
def pc61 : PC := .seq (.reg [ oU 2 (.cp (.k (.int .i64 0)))] [0]) (.seq (.cnd (.k (.bool false)) (.seq (.reg [ oC 3 0,oU 4 (.cvI .u32 (.v 3)),oU 5 (.call 87 [.v 4]),oC 2 5] [2]) (.ret)) (.skip)) (.seq (.reg [ oC 6 0,oU 7 (.call 88 [.v 6]),oC 2 7] [2]) (.ret)))
def rs61 : List RV := [.t 2]
theorem chk61 : chkFn Tryz.prog Tryz.f61 1 pc61 rs61 = true := by kernel_rfl
theorem rule61 : RuL 61 1 pc61 rs61 := rlM Tryz.func61 chk61

/-- strings.genSplit -/
def pc64 : PC := .seq (.reg [ oU 8 (.nil 9)] [0,1,2,3]) (.seq (.seq (.reg [ oC 12 3,oU 13 (.ci .eql (.v 12) (.k (.int .i64 0)))] [0,1,2,3,13]) (.cnd (.v 13) (.seq (.reg [ oU 8 (.nil 9)] [8]) (.ret)) (.skip))) (.seq (.seq (.reg [ oC 14 1,oU 15 (.sc .eql (.v 14) (.k (.str [])))] [0,1,2,3,15]) (.cnd (.v 15) (.seq (.reg [ oC 16 0,oC 17 3,oU 18 (.call 89 [.v 16,.v 17]),oU 8 (.tk 18)] [8]) (.ret)) (.skip))) (.seq (.seq (.reg [ oC 19 3,oU 20 (.ci .lss (.v 19) (.k (.int .i64 0)))] [0,1,2,3,20]) (.cnd (.v 20) (.reg [ oC 21 0,oC 22 1,oU 23 (.call 90 [.v 21,.v 22]),oU 24 (.ari .add .i64 (.v 23) (.k (.int .i64 1))),oC 3 24] [0,1,2,3]) (.skip))) (.seq (.reg [ oC 25 3,oC 26 0,oU 27 (.lenS (.v 26)),oU 28 (.ari .add .i64 (.v 27) (.k (.int .i64 1))),oU 29 (.mm false [.v 25,.v 28]),oC 3 29] [0,1,2,3]) (.seq (.reg [ oC 30 3,oU 31 (.mkS 9 [.str []] 16 (.v 30) (.v 30)),oU 9 (.tk 31)] [0,1,2,3,9]) (.seq (.reg [ oC 32 3,oU 33 (.ari .sub .i64 (.v 32) (.k (.int .i64 1))),oC 3 33] [0,1,2,3,9]) (.seq (.reg [ oU 10 (.cp (.k (.int .i64 0)))] [0,1,2,3,9,10]) (.seq (.blk 0 (.loop (.seq (.seq (.reg [ oC 34 10,oC 35 3,oU 36 (.ci .lss (.v 34) (.v 35))] [0,1,2,3,9,10,36]) (.cnd (.v 36) (.skip) (.exit 0))) (.blk 1 (.seq (.reg [ oC 37 0,oC 38 1,oU 39 (.call 91 [.v 37,.v 38]),oC 11 39] [0,1,2,3,9,10,11]) (.seq (.seq (.reg [ oC 40 11,oU 41 (.ci .lss (.v 40) (.k (.int .i64 0)))] [0,1,2,3,9,10,11,41]) (.cnd (.v 41) (.exit 0) (.skip))) (.seq (.reg [ oU 42 (.mv (.v 9)),oC 43 10,oC 44 0,oC 45 11,oC 46 2,oU 47 (.ari .add .i64 (.v 45) (.v 46)),oU 48 (.slS (.v 44) none (some (.v 47))),oU 49 (.ia 1 (.o 42 9) (.v 43)),⟨none,.st 1 (.o 49 9) (.v 48),none⟩] [0,1,2,3,9,10,11]) (.seq (.reg [ oC 50 0,oC 51 11,oC 52 1,oU 53 (.lenS (.v 52)),oU 54 (.ari .add .i64 (.v 51) (.v 53)),oU 55 (.slS (.v 50) (some (.v 54)) none),oC 0 55] [0,1,2,3,9,10]) (.reg [ oC 56 10,oU 57 (.ari .add .i64 (.v 56) (.k (.int .i64 1))),oC 10 57] [0,1,2,3,9,10]))))))))) (.seq (.reg [ oU 58 (.mv (.v 9)),oC 59 10,oC 60 0,oU 61 (.ia 1 (.o 58 9) (.v 59)),⟨none,.st 1 (.o 61 9) (.v 60),none⟩] [9,10]) (.seq (.reg [ oU 62 (.tk 9),oC 63 10,oU 64 (.ari .add .i64 (.v 63) (.k (.int .i64 1))),oU 65 (.slc 1 (.v 62) none (some (.v 64))),oC 8 65] [8]) (.ret)))))))))))
def rs64 : List RV := [.t 8]
theorem chk64 : chkFn Tryz.prog Tryz.f64 4 pc64 rs64 = true := by kernel_rfl
theorem rule64 : RuL 64 4 pc64 rs64 := rlM Tryz.func64 chk64

/-- slices.pdqsortCmpFunc[klippe/relation.Arc] -/
def pc65 : PC := .seq (.reg [ oU 10 (.cp (.k (.bool true)))] [0,1,2,3,4,10]) (.seq (.reg [ oU 11 (.cp (.k (.bool true)))] [0,1,2,3,4,10,11]) (.blk 0 (.loop (.blk 1 (.seq (.reg [ oC 21 2,oC 22 1,oU 23 (.ari .sub .i64 (.v 21) (.v 22)),oC 12 23] [0,1,2,3,4,10,11,12]) (.seq (.seq (.reg [ oC 24 12,oU 25 (.ci .leq (.v 24) (.k (.int .i64 12)))] [0,1,2,3,4,10,11,12,25]) (.cnd (.v 25) (.seq (.reg [ oC 26 0,oC 27 1,oC 28 2,oC 29 4,oU 30 (.call 92 [.v 26,.v 27,.v 28,.v 29])] []) (.ret)) (.skip))) (.seq (.seq (.reg [ oC 31 3,oU 32 (.ci .eql (.v 31) (.k (.int .i64 0)))] [0,1,2,3,4,10,11,12,32]) (.cnd (.v 32) (.seq (.reg [ oC 33 0,oC 34 1,oC 35 2,oC 36 4,oU 37 (.call 93 [.v 33,.v 34,.v 35,.v 36])] []) (.ret)) (.skip))) (.seq (.seq (.reg [ oC 38 10,oU 39 (.not (.v 38))] [0,1,2,3,4,10,11,12,39]) (.cnd (.v 39) (.seq (.reg [ oC 40 0,oC 41 1,oC 42 2,oC 43 4,oU 44 (.call 94 [.v 40,.v 41,.v 42,.v 43])] [0,1,2,3,4,10,11,12]) (.reg [ oC 45 3,oU 46 (.ari .sub .i64 (.v 45) (.k (.int .i64 1))),oC 3 46] [0,1,2,3,4,10,11,12])) (.skip))) (.seq (.reg [ oC 48 0,oC 49 1,oC 50 2,oC 51 4,oU 52 (.call 95 [.v 48,.v 49,.v 50,.v 51]),oC 47 52,oU 53 (.ext 47 0),oU 54 (.ext 47 1),oC 13 53,oC 14 54] [0,1,2,3,4,10,11,12,13,14]) (.seq (.seq (.reg [ oC 55 14,oU 56 (.ci .eql (.v 55) (.k (.int .i64 2)))] [0,1,2,3,4,10,11,12,13,14,56]) (.cnd (.v 56) (.seq (.reg [ oC 57 0,oC 58 1,oC 59 2,oC 60 4,oU 61 (.call 96 [.v 57,.v 58,.v 59,.v 60])] [0,1,2,3,4,10,11,12,13]) (.seq (.reg [ oC 62 2,oU 63 (.ari .sub .i64 (.v 62) (.k (.int .i64 1))),oC 64 13,oC 65 1,oU 66 (.ari .sub .i64 (.v 64) (.v 65)),oU 67 (.ari .sub .i64 (.v 63) (.v 66)),oC 13 67] [0,1,2,3,4,10,11,12,13]) (.reg [ oU 14 (.cp (.k (.int .i64 1)))] [0,1,2,3,4,10,11,12,13,14]))) (.skip))) (.seq (.seq (.reg [ oC 68 10,oC 69 68,⟨some 70,.cp (.v 11),(some (69,true))⟩,oU 71 (.pick (.v 69) (.v 70) (.k (.bool false))),oC 72 71,⟨some 73,.cp (.v 14),(some (72,true))⟩,⟨some 74,.ci .eql (.v 73) (.k (.int .i64 1)),(some (72,true))⟩,oU 75 (.pick (.v 72) (.v 74) (.k (.bool false)))] [0,1,2,3,4,10,11,12,13,75]) (.cnd (.v 75) (.seq (.reg [ oC 76 0,oC 77 1,oC 78 2,oC 79 4,oU 80 (.call 97 [.v 76,.v 77,.v 78,.v 79])] [0,1,2,3,4,10,11,12,13,80]) (.cnd (.v 80) (.ret) (.skip))) (.skip))) (.seq (.seq (.reg [ oC 81 1,oU 82 (.ci .gtr (.v 81) (.k (.int .i64 0))),oC 83 82,⟨some 84,.cp (.v 4),(some (83,true))⟩,⟨some 85,.cp (.v 0),(some (83,true))⟩,⟨some 86,.cp (.v 1),(some (83,true))⟩,⟨some 87,.ari .sub .i64 (.v 86) (.k (.int .i64 1)),(some (83,true))⟩,⟨some 88,.ia 2 (.v 85) (.v 87),(some (83,true))⟩,⟨some 89,.ld true 2 (.v 88),(some (83,true))⟩,⟨some 90,.cp (.v 0),(some (83,true))⟩,⟨some 91,.cp (.v 13),(some (83,true))⟩,⟨some 92,.ia 2 (.v 90) (.v 91),(some (83,true))⟩,⟨some 93,.ld true 2 (.v 92),(some (83,true))⟩,⟨some 94,.callV 84 [.v 89,.v 93],(some (83,true))⟩,⟨some 95,.ci .lss (.v 94) (.k (.int .i64 0)),(some (83,true))⟩,⟨some 96,.not (.v 95),(some (83,true))⟩,oU 97 (.pick (.v 83) (.v 96) (.k (.bool false)))] [0,1,2,3,4,10,11,12,13,97]) (.cnd (.v 97) (.seq (.reg [ oC 98 0,oC 99 1,oC 100 2,oC 101 13,oC 102 4,oU 103 (.call 98 [.v 98,.v 99,.v 100,.v 101,.v 102]),oC 15 103] [0,2,3,4,10,11,15]) (.seq (.reg [ oC 104 15,oC 1 104] [0,1,2,3,4,10,11]) (.exit 1))) (.skip))) (.seq (.reg [ oC 106 0,oC 107 1,oC 108 2,oC 109 13,oC 110 4,oU 111 (.call 99 [.v 106,.v 107,.v 108,.v 109,.v 110]),oC 105 111,oU 112 (.ext 105 0),oU 113 (.ext 105 1),oC 16 112,oC 17 113] [0,1,2,3,4,12,16,17]) (.seq (.reg [ oC 114 17,oC 11 114] [0,1,2,3,4,11,12,16]) (.seq (.reg [ oC 115 16,oC 116 1,oU 117 (.ari .sub .i64 (.v 115) (.v 116)),oC 118 2,oC 119 16,oU 120 (.ari .sub .i64 (.v 118) (.v 119)),oC 18 117,oC 19 120] [0,1,2,3,4,11,12,16,18,19]) (.seq (.reg [ oC 121 12,oU 122 (.ari .quo .i64 (.v 121) (.k (.int .i64 8))),oC 20 122] [0,1,2,3,4,11,16,18,19,20]) (.seq (.reg [ oC 123 18,oC 124 19,oU 125 (.ci .lss (.v 123) (.v 124))] [0,1,2,3,4,11,16,18,19,20,125]) (.cnd (.v 125) (.seq (.reg [ oC 126 18,oC 127 20,oU 128 (.ci .geq (.v 126) (.v 127)),oC 10 128] [0,1,2,3,4,10,11,16]) (.seq (.reg [ oC 129 0,oC 130 1,oC 131 16,oC 132 3,oC 133 4,oU 134 (.call 65 [.v 129,.v 130,.v 131,.v 132,.v 133])] [0,2,3,4,10,11,16]) (.reg [ oC 135 16,oU 136 (.ari .add .i64 (.v 135) (.k (.int .i64 1))),oC 1 136] [0,1,2,3,4,10,11]))) (.seq (.reg [ oC 137 19,oC 138 20,oU 139 (.ci .geq (.v 137) (.v 138)),oC 10 139] [0,1,2,3,4,10,11,16]) (.seq (.reg [ oC 140 0,oC 141 16,oU 142 (.ari .add .i64 (.v 141) (.k (.int .i64 1))),oC 143 2,oC 144 3,oC 145 4,oU 146 (.call 65 [.v 140,.v 142,.v 143,.v 144,.v 145])] [0,1,3,4,10,11,16]) (.reg [ oC 147 16,oC 2 147] [0,1,2,3,4,10,11])))))))))))))))))))))
def rs65 : List RV := []
theorem chk65 : chkFn Tryz.prog Tryz.f65 5 pc65 rs65 = true := by kernel_rfl
theorem rule65 : RuL 65 5 pc65 rs65 := rlM Tryz.func65 chk65

/-- cmp.isNaN[string] -/
def pc66 : PC := .seq (.reg [ oU 2 (.cp (.k (.bool false)))] [0]) (.seq (.reg [ oC 3 0,oC 4 0,oU 5 (.sc .neq (.v 3) (.v 4)),oC 2 5] [2]) (.ret))
def rs66 : List RV := [.t 2]
theorem chk66 : chkFn Tryz.prog Tryz.f66 1 pc66 rs66 = true := by kernel_rfl
theorem rule66 : RuL 66 1 pc66 rs66 := rlM Tryz.func66 chk66

/-- cmp.Compare[int] -/
def pc68 : PC := .seq (.reg [ oU 4 (.cp (.k (.int .i64 0)))] [0,1]) (.seq (.reg [ oC 7 0,oU 8 (.call 108 [.v 7]),oC 5 8] [0,1,5]) (.seq (.reg [ oC 9 1,oU 10 (.call 108 [.v 9]),oC 6 10] [0,1,5,6]) (.seq (.seq (.reg [ oC 11 5] [0,1,6,11]) (.cnd (.v 11) (.seq (.seq (.reg [ oC 12 6] [12]) (.cnd (.v 12) (.seq (.reg [ oU 4 (.cp (.k (.int .i64 0)))] [4]) (.ret)) (.skip))) (.seq (.reg [ oU 4 (.cp (.k (.int .i64 (-1))))] [4]) (.ret))) (.skip))) (.seq (.seq (.reg [ oC 13 6] [0,1,13]) (.cnd (.v 13) (.seq (.reg [ oU 4 (.cp (.k (.int .i64 1)))] [4]) (.ret)) (.skip))) (.seq (.seq (.reg [ oC 14 0,oC 15 1,oU 16 (.ci .lss (.v 14) (.v 15))] [0,1,16]) (.cnd (.v 16) (.seq (.reg [ oU 4 (.cp (.k (.int .i64 (-1))))] [4]) (.ret)) (.skip))) (.seq (.seq (.reg [ oC 17 0,oC 18 1,oU 19 (.ci .gtr (.v 17) (.v 18))] [19]) (.cnd (.v 19) (.seq (.reg [ oU 4 (.cp (.k (.int .i64 1)))] [4]) (.ret)) (.skip))) (.seq (.reg [ oU 4 (.cp (.k (.int .i64 0)))] [4]) (.ret))))))))
def rs68 : List RV := [.t 4]
theorem chk68 : chkFn Tryz.prog Tryz.f68 2 pc68 rs68 = true := by kernel_rfl
theorem rule68 : RuL 68 2 pc68 rs68 := rlM Tryz.func68 chk68

/-- internal/stringslite.CutPrefix -/
def pc69 : PC := .seq (.reg [ oU 4 (.cp (.k (.str []))),oU 5 (.cp (.k (.bool false)))] [0,1]) (.seq (.seq (.reg [ oC 6 0,oC 7 1,oU 8 (.call 109 [.v 6,.v 7]),oU 9 (.not (.v 8))] [0,1,9]) (.cnd (.v 9) (.seq (.reg [ oC 10 0,oC 4 10,oU 5 (.cp (.k (.bool false)))] [4,5]) (.ret)) (.skip))) (.seq (.reg [ oC 11 0,oC 12 1,oU 13 (.lenS (.v 12)),oU 14 (.slS (.v 11) (some (.v 13)) none),oC 4 14,oU 5 (.cp (.k (.bool true)))] [4,5]) (.ret)))
def rs69 : List RV := [.t 4, .t 5]
theorem chk69 : chkFn Tryz.prog Tryz.f69 2 pc69 rs69 = true := by kernel_rfl
theorem rule69 : RuL 69 2 pc69 rs69 := rlM Tryz.func69 chk69

/-- internal/stringslite.Cut -/
def pc70 : PC := .seq (.reg [ oU 4 (.cp (.k (.str []))),oU 5 (.cp (.k (.str []))),oU 6 (.cp (.k (.bool false)))] [0,1]) (.seq (.seq (.reg [ oC 8 0,oC 9 1,oU 10 (.call 110 [.v 8,.v 9]),oC 7 10] [0,1,7]) (.seq (.reg [ oC 11 7,oU 12 (.ci .geq (.v 11) (.k (.int .i64 0)))] [0,1,7,12]) (.cnd (.v 12) (.seq (.reg [ oC 13 0,oC 14 7,oU 15 (.slS (.v 13) none (some (.v 14))),oC 16 0,oC 17 7,oC 18 1,oU 19 (.lenS (.v 18)),oU 20 (.ari .add .i64 (.v 17) (.v 19)),oU 21 (.slS (.v 16) (some (.v 20)) none),oC 4 15,oC 5 21,oU 6 (.cp (.k (.bool true)))] [4,5,6]) (.ret)) (.skip)))) (.seq (.reg [ oC 22 0,oC 4 22,oU 5 (.cp (.k (.str []))),oU 6 (.cp (.k (.bool false)))] [4,5,6]) (.ret)))
def rs70 : List RV := [.t 4, .t 5, .t 6]
theorem chk70 : chkFn Tryz.prog Tryz.f70 2 pc70 rs70 = true := by kernel_rfl
theorem rule70 : RuL 70 2 pc70 rs70 := rlM Tryz.func70 chk70

/-- (klippe/checker.natural).add -/
def pc72 : PC := .seq (.reg [ oU 4 (.nil 110)] [0,1]) (.seq (.seq (.reg [ oC 11 0,oU 12 (.len (.v 11)),oC 13 1,oU 14 (.len (.v 13)),oU 15 (.ci .lss (.v 12) (.v 14))] [0,1,15]) (.cnd (.v 15) (.reg [ oC 16 1,oC 17 0,oC 0 16,oC 1 17] [0,1]) (.skip))) (.seq (.reg [ oC 18 0,oU 19 (.len (.v 18)),oU 20 (.ari .add .i64 (.v 19) (.k (.int .i64 1))),oU 21 (.mkS 110 [.int .u32 0] 4 (.k (.int .i64 0)) (.v 20)),oU 5 (.tk 21)] [0,1,5]) (.seq (.reg [ oU 6 (.cp (.k (.int .u32 0)))] [0,1,5,6]) (.seq (.seq (.reg [ oC 22 0,oU 23 (.len (.v 22)),oU 24 (.cp (.k (.int .i64 0)))] [1,5,6,22,23,24]) (.blk 0 (.loop (.seq (.reg [ oU 25 (.ci .lss (.v 24) (.v 23))] [1,5,6,22,23,24,25]) (.seq (.cnd (.v 25) (.skip) (.exit 0)) (.seq (.blk 1 (.seq (.reg [ oC 26 24,oU 27 (.ia 1 (.v 22) (.v 24)),oU 28 (.ld false 1 (.v 27)),oC 7 26,oC 8 28] [1,5,6,7,8,22,23,24]) (.seq (.reg [ oU 9 (.cp (.k (.int .u32 0)))] [1,5,6,7,8,9,22,23,24]) (.seq (.seq (.reg [ oC 29 7,oC 30 1,oU 31 (.len (.v 30)),oU 32 (.ci .lss (.v 29) (.v 31))] [1,5,6,7,8,9,22,23,24,32]) (.cnd (.v 32) (.reg [ oC 33 1,oC 34 7,oU 35 (.ia 1 (.v 33) (.v 34)),oU 36 (.ld false 1 (.v 35)),oC 9 36] [1,5,6,8,9,22,23,24]) (.skip))) (.seq (.reg [ oU 10 (.cp (.k (.int .u32 0)))] [1,5,6,8,9,22,23,24]) (.seq (.reg [ oC 38 8,oC 39 9,oC 40 6,oU 41 (.call 111 [.v 38,.v 39,.v 40]),oC 37 41,oU 42 (.ext 37 0),oU 43 (.ext 37 1),oC 10 42,oC 6 43] [1,5,6,10,22,23,24]) (.reg [ oU 44 (.tk 5),oC 45 10,oU 46 (.bldS 110 [.int .u32 0] 1 [(0,1,.v 45)]),oU 47 (.app 110 1 4 (.v 44) (.v 46)),oU 5 (.tk 47)] [1,5,6,22,23,24]))))))) (.reg [ oU 48 (.ari .add .i64 (.v 24) (.k (.int .i64 1))),oC 24 48] [1,5,6,22,23,24]))))))) (.seq (.reg [ oU 49 (.tk 5),oC 50 6,oU 51 (.bldS 110 [.int .u32 0] 1 [(0,1,.v 50)]),oU 52 (.app 110 1 4 (.v 49) (.v 51)),oU 53 (.call 73 [.v 52]),oU 4 (.tk 53)] [4]) (.ret))))))
def rs72 : List RV := [.t 4]
theorem chk72 : chkFn Tryz.prog Tryz.f72 2 pc72 rs72 = true := by kernel_rfl
theorem rule72 : RuL 72 2 pc72 rs72 := rlM Tryz.func72 chk72

/-- (klippe/checker.natural).trim -/
def pc73 : PC := .seq (.reg [ oU 2 (.nil 110)] [0]) (.seq (.blk 0 (.loop (.seq (.seq (.reg [ oC 3 0,oU 4 (.len (.v 3)),oU 5 (.ci .gtr (.v 4) (.k (.int .i64 0))),oC 6 5,⟨some 7,.cp (.v 0),(some (6,true))⟩,⟨some 8,.cp (.v 0),(some (6,true))⟩,⟨some 9,.len (.v 8),(some (6,true))⟩,⟨some 10,.ari .sub .i64 (.v 9) (.k (.int .i64 1)),(some (6,true))⟩,⟨some 11,.ia 1 (.v 7) (.v 10),(some (6,true))⟩,⟨some 12,.ld false 1 (.v 11),(some (6,true))⟩,⟨some 13,.ci .eql (.v 12) (.k (.int .u32 0)),(some (6,true))⟩,oU 14 (.pick (.v 6) (.v 13) (.k (.bool false)))] [0,14]) (.cnd (.v 14) (.skip) (.exit 0))) (.blk 1 (.reg [ oC 15 0,oC 16 0,oU 17 (.len (.v 16)),oU 18 (.ari .sub .i64 (.v 17) (.k (.int .i64 1))),oU 19 (.slc 1 (.v 15) none (some (.v 18))),oC 0 19] [0]))))) (.seq (.reg [ oC 20 0,oC 2 20] [2]) (.ret)))
def rs73 : List RV := [.t 2]
theorem chk73 : chkFn Tryz.prog Tryz.f73 1 pc73 rs73 = true := by kernel_rfl
theorem rule73 : RuL 73 1 pc73 rs73 := rlM Tryz.func73 chk73

/-- (klippe/checker.natural).odd -/
def pc74 : PC := .seq (.reg [ oU 2 (.cp (.k (.bool false)))] [0]) (.seq (.reg [ oC 3 0,oU 4 (.len (.v 3)),oU 5 (.ci .gtr (.v 4) (.k (.int .i64 0))),oC 6 5,⟨some 7,.cp (.v 0),(some (6,true))⟩,⟨some 8,.ia 1 (.v 7) (.k (.int .i64 0)),(some (6,true))⟩,⟨some 9,.ld false 1 (.v 8),(some (6,true))⟩,⟨some 10,.ari .and .u32 (.v 9) (.k (.int .u32 1)),(some (6,true))⟩,⟨some 11,.ci .eql (.v 10) (.k (.int .u32 1)),(some (6,true))⟩,oU 12 (.pick (.v 6) (.v 11) (.k (.bool false))),oC 2 12] [2]) (.ret))
def rs74 : List RV := [.t 2]
theorem chk74 : chkFn Tryz.prog Tryz.f74 1 pc74 rs74 = true := by kernel_rfl
theorem rule74 : RuL 74 1 pc74 rs74 := rlM Tryz.func74 chk74

/-- (klippe/checker.natural).sub -/
def pc76 : PC := .seq (.reg [ oU 4 (.nil 110)] [0,1]) (.seq (.reg [ oC 11 0,oU 12 (.len (.v 11)),oU 13 (.mkS 110 [.int .u32 0] 4 (.k (.int .i64 0)) (.v 12)),oU 5 (.tk 13)] [0,1,5]) (.seq (.reg [ oU 6 (.cp (.k (.int .u32 0)))] [0,1,5,6]) (.seq (.seq (.reg [ oC 14 0,oU 15 (.len (.v 14)),oU 16 (.cp (.k (.int .i64 0)))] [1,5,6,14,15,16]) (.blk 0 (.loop (.seq (.reg [ oU 17 (.ci .lss (.v 16) (.v 15))] [1,5,6,14,15,16,17]) (.seq (.cnd (.v 17) (.skip) (.exit 0)) (.seq (.blk 1 (.seq (.reg [ oC 18 16,oU 19 (.ia 1 (.v 14) (.v 16)),oU 20 (.ld false 1 (.v 19)),oC 7 18,oC 8 20] [1,5,6,7,8,14,15,16]) (.seq (.reg [ oU 9 (.cp (.k (.int .u32 0)))] [1,5,6,7,8,9,14,15,16]) (.seq (.seq (.reg [ oC 21 7,oC 22 1,oU 23 (.len (.v 22)),oU 24 (.ci .lss (.v 21) (.v 23))] [1,5,6,7,8,9,14,15,16,24]) (.cnd (.v 24) (.reg [ oC 25 1,oC 26 7,oU 27 (.ia 1 (.v 25) (.v 26)),oU 28 (.ld false 1 (.v 27)),oC 9 28] [1,5,6,8,9,14,15,16]) (.skip))) (.seq (.reg [ oU 10 (.cp (.k (.int .u32 0)))] [1,5,6,8,9,14,15,16]) (.seq (.reg [ oC 30 8,oC 31 9,oC 32 6,oU 33 (.call 112 [.v 30,.v 31,.v 32]),oC 29 33,oU 34 (.ext 29 0),oU 35 (.ext 29 1),oC 10 34,oC 6 35] [1,5,6,10,14,15,16]) (.reg [ oU 36 (.tk 5),oC 37 10,oU 38 (.bldS 110 [.int .u32 0] 1 [(0,1,.v 37)]),oU 39 (.app 110 1 4 (.v 36) (.v 38)),oU 5 (.tk 39)] [1,5,6,14,15,16]))))))) (.reg [ oU 40 (.ari .add .i64 (.v 16) (.k (.int .i64 1))),oC 16 40] [1,5,6,14,15,16]))))))) (.seq (.reg [ oU 41 (.tk 5),oU 42 (.call 73 [.v 41]),oU 4 (.tk 42)] [4]) (.ret)))))
def rs76 : List RV := [.t 4]
theorem chk76 : chkFn Tryz.prog Tryz.f76 2 pc76 rs76 = true := by kernel_rfl
theorem rule76 : RuL 76 2 pc76 rs76 := rlM Tryz.func76 chk76

/-- strings.Index -/
def pc91 : PC := .seq (.reg [ oU 4 (.cp (.k (.int .i64 0)))] [0,1]) (.seq (.reg [ oC 5 0,oC 6 1,oU 7 (.call 110 [.v 5,.v 6]),oC 4 7] [4]) (.ret))
def rs91 : List RV := [.t 4]
theorem chk91 : chkFn Tryz.prog Tryz.f91 2 pc91 rs91 = true := by kernel_rfl
theorem rule91 : RuL 91 2 pc91 rs91 := rlM Tryz.func91 chk91

/-- slices.insertionSortCmpFunc[klippe/relation.Arc] -/
def pc92 : PC := .seq (.reg [ oC 10 1,oU 11 (.ari .add .i64 (.v 10) (.k (.int .i64 1))),oC 8 11] [0,1,2,3,8]) (.blk 0 (.loop (.seq (.seq (.reg [ oC 12 8,oC 13 2,oU 14 (.ci .lss (.v 12) (.v 13))] [0,1,2,3,8,14]) (.cnd (.v 14) (.skip) (.exit 0))) (.seq (.blk 1 (.seq (.reg [ oC 17 8,oC 9 17] [0,1,2,3,8,9]) (.blk 2 (.loop (.seq (.seq (.reg [ oC 18 9,oC 19 1,oU 20 (.ci .gtr (.v 18) (.v 19)),oC 21 20,⟨some 22,.cp (.v 3),(some (21,true))⟩,⟨some 23,.cp (.v 0),(some (21,true))⟩,⟨some 24,.cp (.v 9),(some (21,true))⟩,⟨some 25,.ia 2 (.v 23) (.v 24),(some (21,true))⟩,⟨some 26,.ld true 2 (.v 25),(some (21,true))⟩,⟨some 27,.cp (.v 0),(some (21,true))⟩,⟨some 28,.cp (.v 9),(some (21,true))⟩,⟨some 29,.ari .sub .i64 (.v 28) (.k (.int .i64 1)),(some (21,true))⟩,⟨some 30,.ia 2 (.v 27) (.v 29),(some (21,true))⟩,⟨some 31,.ld true 2 (.v 30),(some (21,true))⟩,⟨some 32,.callV 22 [.v 26,.v 31],(some (21,true))⟩,⟨some 33,.ci .lss (.v 32) (.k (.int .i64 0)),(some (21,true))⟩,oU 34 (.pick (.v 21) (.v 33) (.k (.bool false)))] [0,1,2,3,8,9,34]) (.cnd (.v 34) (.skip) (.exit 2))) (.seq (.blk 3 (.reg [ oC 37 0,oC 38 9,oC 39 0,oC 40 9,oU 41 (.ari .sub .i64 (.v 40) (.k (.int .i64 1))),oC 42 0,oC 43 9,oU 44 (.ari .sub .i64 (.v 43) (.k (.int .i64 1))),oU 45 (.ia 2 (.v 42) (.v 44)),oU 46 (.ld true 2 (.v 45)),oC 47 0,oC 48 9,oU 49 (.ia 2 (.v 47) (.v 48)),oU 50 (.ld true 2 (.v 49)),oU 51 (.ia 2 (.v 37) (.v 38)),⟨none,.st 2 (.v 51) (.v 46),none⟩,oU 52 (.ia 2 (.v 39) (.v 41)),⟨none,.st 2 (.v 52) (.v 50),none⟩] [0,1,2,3,8,9])) (.reg [ oC 35 9,oU 36 (.ari .sub .i64 (.v 35) (.k (.int .i64 1))),oC 9 36] [0,1,2,3,8,9]))))))) (.reg [ oC 15 8,oU 16 (.ari .add .i64 (.v 15) (.k (.int .i64 1))),oC 8 16] [0,1,2,3,8])))))
def rs92 : List RV := []
theorem chk92 : chkFn Tryz.prog Tryz.f92 4 pc92 rs92 = true := by kernel_rfl
theorem rule92 : RuL 92 4 pc92 rs92 := rlM Tryz.func92 chk92

/-- cmp.isNaN[int] -/
def pc108 : PC := .seq (.reg [ oU 2 (.cp (.k (.bool false)))] [0]) (.seq (.reg [ oC 3 0,oC 4 0,oU 5 (.ci .neq (.v 3) (.v 4)),oC 2 5] [2]) (.ret))
def rs108 : List RV := [.t 2]
theorem chk108 : chkFn Tryz.prog Tryz.f108 1 pc108 rs108 = true := by kernel_rfl
theorem rule108 : RuL 108 1 pc108 rs108 := rlM Tryz.func108 chk108

/-- internal/stringslite.HasPrefix -/
def pc109 : PC := .seq (.reg [ oU 4 (.cp (.k (.bool false)))] [0,1]) (.seq (.reg [ oC 5 0,oU 6 (.lenS (.v 5)),oC 7 1,oU 8 (.lenS (.v 7)),oU 9 (.ci .geq (.v 6) (.v 8)),oC 10 9,⟨some 11,.cp (.v 0),(some (10,true))⟩,⟨some 12,.cp (.v 1),(some (10,true))⟩,⟨some 13,.lenS (.v 12),(some (10,true))⟩,⟨some 14,.slS (.v 11) none (some (.v 13)),(some (10,true))⟩,⟨some 15,.cp (.v 1),(some (10,true))⟩,⟨some 16,.sc .eql (.v 14) (.v 15),(some (10,true))⟩,oU 17 (.pick (.v 10) (.v 16) (.k (.bool false))),oC 4 17] [4]) (.ret))
def rs109 : List RV := [.t 4]
theorem chk109 : chkFn Tryz.prog Tryz.f109 2 pc109 rs109 = true := by kernel_rfl
theorem rule109 : RuL 109 2 pc109 rs109 := rlM Tryz.func109 chk109

def tabL : List (Nat × PC × List RV × Nat) := [(3, pc3, rs3, 1), (4, pc4, rs4, 0), (5, pc5, rs5, 0), (6, pc6, rs6, 1), (8, pc8, rs8, 1), (11, pc11, rs11, 1), (12, pc12, rs12, 0), (13, pc13, rs13, 1), (14, pc14, rs14, 1), (15, pc15, rs15, 1), (19, pc19, rs19, 2), (20, pc20, rs20, 2), (21, pc21, rs21, 2), (23, pc23, rs23, 2), (24, pc24, rs24, 1), (25, pc25, rs25, 1), (27, pc27, rs27, 1), (28, pc28, rs28, 1), (29, pc29, rs29, 3), (30, pc30, rs30, 2), (31, pc31, rs31, 4), (34, pc34, rs34, 2), (35, pc35, rs35, 1), (39, pc39, rs39, 2), (40, pc40, rs40, 2), (41, pc41, rs41, 0), (42, pc42, rs42, 2), (43, pc43, rs43, 1), (44, pc44, rs44, 2), (46, pc46, rs46, 1), (47, pc47, rs47, 2), (51, pc51, rs51, 2), (53, pc53, rs53, 2), (54, pc54, rs54, 2), (55, pc55, rs55, 1), (56, pc56, rs56, 2), (57, pc57, rs57, 2), (58, pc58, rs58, 1), (61, pc61, rs61, 1), (64, pc64, rs64, 4), (65, pc65, rs65, 5), (66, pc66, rs66, 1), (68, pc68, rs68, 2), (69, pc69, rs69, 2), (70, pc70, rs70, 2), (72, pc72, rs72, 2), (73, pc73, rs73, 1), (74, pc74, rs74, 1), (76, pc76, rs76, 2), (91, pc91, rs91, 2), (92, pc92, rs92, 4), (108, pc108, rs108, 1), (109, pc109, rs109, 2)]
def tabFn (f : Nat) : Option (PC × List RV × Nat) := (tabL.find? (fun e => e.1 == f)).map (·.2)
theorem tabL_ok : ∀ e ∈ tabL, ∃ fn, Tryz.prog.funcs[e.1]? = some fn ∧ chkFn Tryz.prog fn e.2.2.2 e.2.1 e.2.2.1 = true := by
  intro e he
  simp only [tabL, List.mem_cons, List.not_mem_nil, or_false] at he
  rcases he with rfl | rfl | rfl | rfl | rfl | rfl | rfl | rfl | rfl | rfl | rfl | rfl | rfl | rfl | rfl | rfl | rfl | rfl | rfl | rfl | rfl | rfl | rfl | rfl | rfl | rfl | rfl | rfl | rfl | rfl | rfl | rfl | rfl | rfl | rfl | rfl | rfl | rfl | rfl | rfl | rfl | rfl | rfl | rfl | rfl | rfl | rfl | rfl | rfl | rfl | rfl | rfl | rfl
  · exact ⟨_, Tryz.func3, chk3⟩
  · exact ⟨_, Tryz.func4, chk4⟩
  · exact ⟨_, Tryz.func5, chk5⟩
  · exact ⟨_, Tryz.func6, chk6⟩
  · exact ⟨_, Tryz.func8, chk8⟩
  · exact ⟨_, Tryz.func11, chk11⟩
  · exact ⟨_, Tryz.func12, chk12⟩
  · exact ⟨_, Tryz.func13, chk13⟩
  · exact ⟨_, Tryz.func14, chk14⟩
  · exact ⟨_, Tryz.func15, chk15⟩
  · exact ⟨_, Tryz.func19, chk19⟩
  · exact ⟨_, Tryz.func20, chk20⟩
  · exact ⟨_, Tryz.func21, chk21⟩
  · exact ⟨_, Tryz.func23, chk23⟩
  · exact ⟨_, Tryz.func24, chk24⟩
  · exact ⟨_, Tryz.func25, chk25⟩
  · exact ⟨_, Tryz.func27, chk27⟩
  · exact ⟨_, Tryz.func28, chk28⟩
  · exact ⟨_, Tryz.func29, chk29⟩
  · exact ⟨_, Tryz.func30, chk30⟩
  · exact ⟨_, Tryz.func31, chk31⟩
  · exact ⟨_, Tryz.func34, chk34⟩
  · exact ⟨_, Tryz.func35, chk35⟩
  · exact ⟨_, Tryz.func39, chk39⟩
  · exact ⟨_, Tryz.func40, chk40⟩
  · exact ⟨_, Tryz.func41, chk41⟩
  · exact ⟨_, Tryz.func42, chk42⟩
  · exact ⟨_, Tryz.func43, chk43⟩
  · exact ⟨_, Tryz.func44, chk44⟩
  · exact ⟨_, Tryz.func46, chk46⟩
  · exact ⟨_, Tryz.func47, chk47⟩
  · exact ⟨_, Tryz.func51, chk51⟩
  · exact ⟨_, Tryz.func53, chk53⟩
  · exact ⟨_, Tryz.func54, chk54⟩
  · exact ⟨_, Tryz.func55, chk55⟩
  · exact ⟨_, Tryz.func56, chk56⟩
  · exact ⟨_, Tryz.func57, chk57⟩
  · exact ⟨_, Tryz.func58, chk58⟩
  · exact ⟨_, Tryz.func61, chk61⟩
  · exact ⟨_, Tryz.func64, chk64⟩
  · exact ⟨_, Tryz.func65, chk65⟩
  · exact ⟨_, Tryz.func66, chk66⟩
  · exact ⟨_, Tryz.func68, chk68⟩
  · exact ⟨_, Tryz.func69, chk69⟩
  · exact ⟨_, Tryz.func70, chk70⟩
  · exact ⟨_, Tryz.func72, chk72⟩
  · exact ⟨_, Tryz.func73, chk73⟩
  · exact ⟨_, Tryz.func74, chk74⟩
  · exact ⟨_, Tryz.func76, chk76⟩
  · exact ⟨_, Tryz.func91, chk91⟩
  · exact ⟨_, Tryz.func92, chk92⟩
  · exact ⟨_, Tryz.func108, chk108⟩
  · exact ⟨_, Tryz.func109, chk109⟩
theorem tabFn_ok (f : Nat) (pc : PC) (rs : List RV) (np : Nat) (h : tabFn f = some (pc, rs, np)) : ∃ fn, Tryz.prog.funcs[f]? = some fn ∧ chkFn Tryz.prog fn np pc rs = true := by
  unfold tabFn at h
  rw [Option.map_eq_some_iff] at h
  obtain ⟨e, h1, h2⟩ := h
  have h3 := List.find?_some h1
  simp only [beq_iff_eq] at h3
  obtain ⟨fn, h4, h5⟩ := tabL_ok e (List.mem_of_find?_eq_some h1)
  rw [h2] at h5
  exact ⟨fn, by rw [← h3]; exact h4, h5⟩

end Go.Proofs
