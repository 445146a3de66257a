/- The pure readings of functions of this seat, printed by program (pcfile.py). Own work. -/
import Derived.Test.YtidmnjnhccoblaaGreatDoorProg
import Derived.Test.YtidmnjnhccoblaaGreatDoorRa
import Derived.Test.YtidmnjnhccoblaaGreatDoorPj
import Derived.KernelRfl
namespace Go.Proofs
open Go Go.Pi Go.RowKit
set_option maxRecDepth 100000
set_option linter.unusedVariables false
set_option linter.unusedSimpArgs false
/-- klippe/klipperef02.lowest -/
def pc102 : PC := .seq (.reg [ oU 4 (.cp (.k (.str [])))] [0,1]) (.seq (.seq (.reg [ oC 7 1,oU 8 (.ci .neq (.v 7) (.k (.int .i64 1)))] [0,1,8]) (.cnd (.v 8) (.seq (.reg [ oC 9 0,oC 10 0,oU 11 (.ng .i64 (.v 10)),oU 12 (.mm true [.v 9,.v 11]),oC 13 1,oC 5 12,oC 6 13] [0,1,5,6]) (.seq (.blk 0 (.loop (.seq (.seq (.reg [ oC 14 6,oU 15 (.ci .neq (.v 14) (.k (.int .i64 0)))] [0,1,5,6,15]) (.cnd (.v 15) (.skip) (.exit 0))) (.blk 1 (.reg [ oC 16 6,oC 17 5,oC 18 6,oU 19 (.ari .rem .i64 (.v 17) (.v 18)),oC 5 16,oC 6 19] [0,1,5,6]))))) (.reg [ oC 20 0,oC 21 5,oU 22 (.ari .quo .i64 (.v 20) (.v 21)),oC 23 1,oC 24 5,oU 25 (.ari .quo .i64 (.v 23) (.v 24)),oC 0 22,oC 1 25] [0,1]))) (.skip))) (.seq (.seq (.reg [ oC 26 1,oU 27 (.ci .eql (.v 26) (.k (.int .i64 1)))] [0,1,27]) (.cnd (.v 27) (.seq (.reg [ oC 28 0,oU 29 (.call 106 [.v 28]),oC 4 29] [4]) (.ret)) (.skip))) (.seq (.reg [ oC 30 0,oU 31 (.call 106 [.v 30]),oU 32 (.cat (.v 31) (.k (.str [47]))),oC 33 1,oU 34 (.call 106 [.v 33]),oU 35 (.cat (.v 32) (.v 34)),oC 4 35] [4]) (.ret))))
def rs102 : List RV := [.t 4]
theorem chk102 : chkFn Tryz.prog Tryz.f102 2 pc102 rs102 = true := by kernel_rfl
theorem rule102 : Rl 102 2 pc102 rs102 := rlM Tryz.func102 chk102

/-- klippe/klipperef01.Mul -/
def pc103 : PC := .seq (.reg [ oU 4 (.cp (.k (.str [])))] [0,1]) (.seq (.reg [ oC 14 0,oU 15 (.call 92 [.v 14]),oC 13 15,oU 16 (.ext 13 0),oU 17 (.ext 13 1),oC 5 16,oC 6 17] [0,1,5,6]) (.seq (.reg [ oC 19 1,oU 20 (.call 92 [.v 19]),oC 18 20,oU 21 (.ext 18 0),oU 22 (.ext 18 1),oC 7 21,oC 8 22] [0,1,5,6,7,8]) (.seq (.seq (.reg [ oC 23 6,oU 24 (.lenS (.v 23)),oC 25 8,oU 26 (.lenS (.v 25)),oU 27 (.ari .add .i64 (.v 24) (.v 26)),oU 28 (.ci .leq (.v 27) (.k (.int .i64 18)))] [0,1,5,6,7,8,28]) (.cnd (.v 28) (.seq (.reg [ oC 30 0,oU 31 (.call 136 [.v 30]),oC 29 31,oU 32 (.ext 29 0),oU 33 (.ext 29 1),oC 9 32,oC 10 33] [1,9]) (.seq (.reg [ oC 35 1,oU 36 (.call 136 [.v 35]),oC 34 36,oU 37 (.ext 34 0),oU 38 (.ext 34 1),oC 11 37,oC 12 38] [9,11]) (.seq (.reg [ oC 39 9,oC 40 11,oU 41 (.ari .mul .i64 (.v 39) (.v 40)),oU 42 (.call 65 [.v 41]),oC 4 42] [4]) (.ret)))) (.skip))) (.seq (.reg [ oC 43 5,oC 44 7,oU 45 (.eqb true (.v 43) (.v 44)),oC 46 6,oU 47 (.call 133 [.v 46]),oC 48 8,oU 49 (.call 133 [.v 48]),oU 50 (.call 137 [.v 47,.v 49]),oU 51 (.call 135 [.v 45,.v 50]),oC 4 51] [4]) (.ret)))))
def rs103 : List RV := [.t 4]
theorem chk103 : chkFn Tryz.prog Tryz.f103 2 pc103 rs103 = true := by kernel_rfl
theorem rule103 : Rl 103 2 pc103 rs103 := rlM Tryz.func103 chk103

/-- klippe/klipperef02.small -/
def pc104 : PC := .seq (.reg [ oU 4 (.cp (.k (.str [])))] [0,1]) (.seq (.reg [ oC 12 0,oU 13 (.call 138 [.v 12]),oC 11 13,oU 14 (.ext 11 0),oU 15 (.ext 11 1),oC 5 14,oC 6 15] [1,5]) (.seq (.reg [ oC 17 1,oU 18 (.call 138 [.v 17]),oC 16 18,oU 19 (.ext 16 0),oU 20 (.ext 16 1),oC 7 19,oC 8 20] [5,7]) (.seq (.seq (.reg [ oC 21 7,oU 22 (.ci .lss (.v 21) (.k (.int .i64 0)))] [5,7,22]) (.cnd (.v 22) (.reg [ oC 23 5,oU 24 (.ng .i64 (.v 23)),oC 25 7,oU 26 (.ng .i64 (.v 25)),oC 5 24,oC 7 26] [5,7]) (.skip))) (.seq (.reg [ oC 27 5,oC 28 7,oC 9 27,oC 10 28] [5,7,9,10]) (.seq (.seq (.reg [ oC 29 9,oU 30 (.ci .lss (.v 29) (.k (.int .i64 0)))] [5,7,9,10,30]) (.cnd (.v 30) (.reg [ oC 31 9,oU 32 (.ng .i64 (.v 31)),oC 9 32] [5,7,9,10]) (.skip))) (.seq (.blk 0 (.loop (.seq (.seq (.reg [ oC 33 10,oU 34 (.ci .neq (.v 33) (.k (.int .i64 0)))] [5,7,9,10,34]) (.cnd (.v 34) (.skip) (.exit 0))) (.blk 1 (.reg [ oC 35 10,oC 36 9,oC 37 10,oU 38 (.ari .rem .i64 (.v 36) (.v 37)),oC 9 35,oC 10 38] [5,7,9,10]))))) (.seq (.reg [ oC 39 5,oC 40 9,oU 41 (.ari .quo .i64 (.v 39) (.v 40)),oC 42 7,oC 43 9,oU 44 (.ari .quo .i64 (.v 42) (.v 43)),oC 5 41,oC 7 44] [5,7]) (.seq (.seq (.reg [ oC 45 7,oU 46 (.ci .eql (.v 45) (.k (.int .i64 1)))] [5,7,46]) (.cnd (.v 46) (.seq (.reg [ oC 47 5,oU 48 (.call 106 [.v 47]),oC 4 48] [4]) (.ret)) (.skip))) (.seq (.reg [ oC 49 5,oU 50 (.call 106 [.v 49]),oU 51 (.cat (.v 50) (.k (.str [47]))),oC 52 7,oU 53 (.call 106 [.v 52]),oU 54 (.cat (.v 51) (.v 53)),oC 4 54] [4]) (.ret))))))))))
def rs104 : List RV := [.t 4]
theorem chk104 : chkFn Tryz.prog Tryz.f104 2 pc104 rs104 = true := by kernel_rfl
theorem rule104 : Rl 104 2 pc104 rs104 := rlM Tryz.func104 chk104

/-- klippe/rational.Whole -/
def pc109 : PC := .seq (.reg [ oU 2 (.cp (.k (.str [])))] [0]) (.seq (.reg [ oC 3 0,oU 4 (.call 120 [.v 3]),oC 2 4] [2]) (.ret))
def rs109 : List RV := [.t 2]
theorem chk109 : chkFn Tryz.prog Tryz.f109 1 pc109 rs109 = true := by kernel_rfl
theorem rule109 : Rl 109 1 pc109 rs109 := rlM Tryz.func109 chk109

/-- klippe/rational.Of -/
def pc110 : PC := .seq (.reg [ oU 4 (.cp (.k (.str []))),oU 5 (.cp (.k (.int .i64 0)))] [0,1]) (.seq (.reg [ oC 6 0,oU 7 (.call 120 [.v 6]),oC 8 1,oU 9 (.call 120 [.v 8]),oU 10 (.call 140 [.v 7,.v 9]),oU 11 (.ext 10 0),oU 12 (.ext 10 1),oC 4 11,oC 5 12] [4,5]) (.ret))
def rs110 : List RV := [.t 4, .t 5]
theorem chk110 : chkFn Tryz.prog Tryz.f110 2 pc110 rs110 = true := by kernel_rfl
theorem rule110 : Rl 110 2 pc110 rs110 := rlM Tryz.func110 chk110

/-- klippe/stereonet.reaches -/
def pc111 : PC := .seq (.reg [ oU 4 (.bx 2 (.v 0)),oU 6 (.bx 3 (.v 2)),oU 8 (.cp (.k (.bool false)))] [1,3,4,6]) (.seq (.reg [ oC 12 1,oU 13 (.fa 1 (.v 4)),oU 14 (.ld false 1 (.o 13 4)),oU 15 (.call 109 [.v 14]),oU 16 (.call 54 [.v 12,.v 15]),oC 1 16] [1,3,4,6]) (.seq (.reg [ oU 17 (.ld true 3 (.v 6)),oU 18 (.ld true 3 (.v 6)),oU 19 (.call 55 [.v 17,.v 18]),oC 9 19] [1,3,4,6,9]) (.seq (.seq (.reg [ oU 20 (.fa 0 (.v 4)),oU 21 (.ld false 1 (.o 20 4)),oU 22 (.ci .eql (.v 21) (.k (.int .i64 1)))] [1,3,6,9,22]) (.cnd (.v 22) (.seq (.reg [ oC 23 1,oC 24 3,oU 25 (.fa 2 (.v 6)),oU 26 (.ld false 1 (.o 25 6)),oU 27 (.call 54 [.v 24,.v 26]),oU 28 (.call 91 [.v 23,.v 27]),oC 29 3,oC 30 9,oU 31 (.call 141 [.v 28,.v 29,.v 30]),oC 8 31] [8]) (.ret)) (.skip))) (.seq (.reg [ oC 32 1,oC 33 1,oU 34 (.call 54 [.v 32,.v 33]),oC 35 3,oC 36 3,oU 37 (.call 54 [.v 35,.v 36]),oC 38 9,oU 39 (.call 54 [.v 37,.v 38]),oU 40 (.call 81 [.v 34,.v 39]),oC 10 40] [1,3,6,9,10]) (.seq (.reg [ oC 41 3,oC 42 3,oU 43 (.call 54 [.v 41,.v 42]),oU 44 (.fa 2 (.v 6)),oU 45 (.ld false 1 (.o 44 6)),oU 46 (.call 54 [.v 43,.v 45]),oU 47 (.call 67 [.v 46]),oC 11 47] [1,3,9,10,11]) (.seq (.seq (.reg [ oC 48 3,oU 49 (.call 52 [.v 48]),oU 50 (.ci .geq (.v 49) (.k (.int .i64 0)))] [1,9,10,11,50]) (.cnd (.v 50) (.seq (.reg [ oC 51 1,oU 52 (.call 52 [.v 51]),oU 53 (.ci .geq (.v 52) (.k (.int .i64 0))),oC 54 53,⟨some 55,.cp (.v 10),(some (54,true))⟩,⟨some 56,.cp (.v 11),(some (54,true))⟩,⟨some 57,.cp (.v 9),(some (54,true))⟩,⟨some 58,.call 141 [.v 55,.v 56,.v 57],(some (54,true))⟩,oU 59 (.pick (.v 54) (.v 58) (.k (.bool false))),oC 8 59] [8]) (.ret)) (.skip))) (.seq (.reg [ oC 60 1,oU 61 (.call 52 [.v 60]),oU 62 (.ci .geq (.v 61) (.k (.int .i64 0))),oC 63 62,⟨some 64,.cp (.v 10),(some (63,false))⟩,⟨some 65,.call 67 [.v 64],(some (63,false))⟩,⟨some 66,.cp (.v 11),(some (63,false))⟩,⟨some 67,.call 67 [.v 66],(some (63,false))⟩,⟨some 68,.cp (.v 9),(some (63,false))⟩,⟨some 69,.call 141 [.v 65,.v 67,.v 68],(some (63,false))⟩,oU 70 (.pick (.v 63) (.k (.bool true)) (.v 69)),oC 8 70] [8]) (.ret))))))))
def rs111 : List RV := [.t 8]
theorem chk111 : chkFn Tryz.prog Tryz.f111 4 pc111 rs111 = true := by kernel_rfl
theorem rule111 : Rl 111 4 pc111 rs111 := rlM Tryz.func111 chk111

/-- klippe/vector.numbers -/
def pc113 : PC := .seq (.reg [ oU 2 (.cp (.k (.int .i64 0)))] [0]) (.seq (.seq (.reg [ oC 6 0,oU 7 (.len (.v 6)),oU 8 (.cp (.k (.int .i64 0)))] [6,7,8]) (.blk 0 (.loop (.seq (.reg [ oU 9 (.ci .lss (.v 8) (.v 7))] [6,7,8,9]) (.seq (.cnd (.v 9) (.skip) (.exit 0)) (.seq (.blk 1 (.seq (.reg [ oU 10 (.ia 1 (.v 6) (.v 8)),oU 11 (.ld false 1 (.v 10)),oC 4 11] [4,6,7,8]) (.seq (.reg [ oC 12 4,oU 13 (.call 51 [.v 12]),oC 5 13] [5,6,7,8]) (.seq (.reg [ oC 14 5,oU 15 (.ci .neq (.v 14) (.k (.int .i64 0)))] [5,6,7,8,15]) (.cnd (.v 15) (.seq (.reg [ oC 16 5,oC 2 16] [2]) (.ret)) (.skip)))))) (.reg [ oU 17 (.ari .add .i64 (.v 8) (.k (.int .i64 1))),oC 8 17] [6,7,8]))))))) (.seq (.reg [ oU 2 (.cp (.k (.int .i64 0)))] [2]) (.ret)))
def rs113 : List RV := [.t 2]
theorem chk113 : chkFn Tryz.prog Tryz.f113 1 pc113 rs113 = true := by kernel_rfl
theorem rule113 : Rl 113 1 pc113 rs113 := rlM Tryz.func113 chk113

/-- internal/stringslite.Cut -/
def pc114 : PC := .seq (.reg [ oU 4 (.cp (.k (.str []))),oU 5 (.cp (.k (.str []))),oU 6 (.cp (.k (.bool false)))] [0,1]) (.seq (.seq (.reg [ oC 8 0,oC 9 1,oU 10 (.call 142 [.v 8,.v 9]),oC 7 10] [0,1,7]) (.seq (.reg [ oC 11 7,oU 12 (.ci .geq (.v 11) (.k (.int .i64 0)))] [0,1,7,12]) (.cnd (.v 12) (.seq (.reg [ oC 13 0,oC 14 7,oU 15 (.slS (.v 13) none (some (.v 14))),oC 16 0,oC 17 7,oC 18 1,oU 19 (.lenS (.v 18)),oU 20 (.ari .add .i64 (.v 17) (.v 19)),oU 21 (.slS (.v 16) (some (.v 20)) none),oC 4 15,oC 5 21,oU 6 (.cp (.k (.bool true)))] [4,5,6]) (.ret)) (.skip)))) (.seq (.reg [ oC 22 0,oC 4 22,oU 5 (.cp (.k (.str []))),oU 6 (.cp (.k (.bool false)))] [4,5,6]) (.ret)))
def rs114 : List RV := [.t 4, .t 5, .t 6]
theorem chk114 : chkFn Tryz.prog Tryz.f114 2 pc114 rs114 = true := by kernel_rfl
theorem rule114 : Rl 114 2 pc114 rs114 := rlM Tryz.func114 chk114

/-- strings.CutPrefix -/
def pc115 : PC := .seq (.reg [ oU 4 (.cp (.k (.str []))),oU 5 (.cp (.k (.bool false)))] [0,1]) (.seq (.reg [ oC 6 0,oC 7 1,oU 8 (.call 143 [.v 6,.v 7]),oU 9 (.ext 8 0),oU 10 (.ext 8 1),oC 4 9,oC 5 10] [4,5]) (.ret))
def rs115 : List RV := [.t 4, .t 5]
theorem chk115 : chkFn Tryz.prog Tryz.f115 2 pc115 rs115 = true := by kernel_rfl
theorem rule115 : Rl 115 2 pc115 rs115 := rlM Tryz.func115 chk115

/-- klippe/integer.Sign -/
def pc116 : PC := .seq (.reg [ oU 2 (.cp (.k (.int .i64 0)))] [0]) (.seq (.blk 0 (.seq (.reg [ oC 4 0,oU 5 (.sc .eql (.v 4) (.k (.str [48]))),oC 3 5] [0,3]) (.cnd (.v 3) (.seq (.reg [ oU 2 (.cp (.k (.int .i64 0)))] [2]) (.ret)) (.seq (.reg [ oC 7 0,oU 8 (.call 144 [.v 7,.k (.str [45])]),oC 6 8] [6]) (.cnd (.v 6) (.seq (.reg [ oU 2 (.cp (.k (.int .i64 (-1))))] [2]) (.ret)) (.skip)))))) (.seq (.reg [ oU 2 (.cp (.k (.int .i64 1)))] [2]) (.ret)))
def rs116 : List RV := [.t 2]
theorem chk116 : chkFn Tryz.prog Tryz.f116 1 pc116 rs116 = true := by kernel_rfl
theorem rule116 : Rl 116 1 pc116 rs116 := rlM Tryz.func116 chk116

/-- strings.TrimPrefix -/
def pc117 : PC := .seq (.reg [ oU 4 (.cp (.k (.str [])))] [0,1]) (.seq (.reg [ oC 5 0,oC 6 1,oU 7 (.call 145 [.v 5,.v 6]),oC 4 7] [4]) (.ret))
def rs117 : List RV := [.t 4]
theorem chk117 : chkFn Tryz.prog Tryz.f117 2 pc117 rs117 = true := by kernel_rfl
theorem rule117 : Rl 117 2 pc117 rs117 := rlM Tryz.func117 chk117

/-- klippe/integer.quick -/
def pc119 : PC := .seq (.reg [ oU 4 (.cp (.k (.int .i64 0))),oU 5 (.cp (.k (.bool false)))] [0,1]) (.seq (.seq (.reg [ oC 8 0,oU 9 (.lenS (.v 8)),oC 10 1,oU 11 (.ci .gtr (.v 9) (.v 10))] [0,11]) (.cnd (.v 11) (.seq (.reg [ oU 4 (.cp (.k (.int .i64 0))),oU 5 (.cp (.k (.bool false)))] [4,5]) (.ret)) (.skip))) (.seq (.reg [ oC 13 0,oU 14 (.call 138 [.v 13]),oC 12 14,oU 15 (.ext 12 0),oU 16 (.ext 12 1),oC 6 15,oC 7 16] [6,7]) (.seq (.reg [ oC 17 6,oC 18 7,oU 19 (.en false (.v 18)),oC 4 17,oC 5 19] [4,5]) (.ret))))
def rs119 : List RV := [.t 4, .t 5]
theorem chk119 : chkFn Tryz.prog Tryz.f119 2 pc119 rs119 = true := by kernel_rfl
theorem rule119 : Rl 119 2 pc119 rs119 := rlM Tryz.func119 chk119

/-- klippe/integer.Of -/
def pc120 : PC := .seq (.reg [ oU 2 (.cp (.k (.str [])))] [0]) (.seq (.reg [ oC 3 0,oU 4 (.call 106 [.v 3]),oC 2 4] [2]) (.ret))
def rs120 : List RV := [.t 2]
theorem chk120 : chkFn Tryz.prog Tryz.f120 1 pc120 rs120 = true := by kernel_rfl
theorem rule120 : Rl 120 1 pc120 rs120 := rlM Tryz.func120 chk120

/-- klippe/integer.open -/
def pc121 : PC := .seq (.reg [ oU 2 (.alloc [.bool false,.sl 0 []])] [0,2]) (.seq (.reg [ oC 10 0,oU 11 (.call 115 [.v 10,.k (.str [45])]),oC 9 11,oU 12 (.ext 9 0),oU 13 (.ext 9 1),oC 3 12,oC 4 13] [2,3,4]) (.seq (.reg [ oC 14 3,oU 15 (.lenS (.v 14)),oU 16 (.ari .quo .i64 (.v 15) (.k (.int .i64 9))),oU 17 (.ari .add .i64 (.v 16) (.k (.int .i64 1))),oU 18 (.mkS 123 [.int .u64 0] 8 (.k (.int .i64 0)) (.v 17)),oU 5 (.tk 18)] [2,3,4,5]) (.seq (.blk 0 (.loop (.seq (.seq (.reg [ oC 19 3,oU 20 (.lenS (.v 19)),oU 21 (.ci .gtr (.v 20) (.k (.int .i64 0)))] [2,3,4,5,21]) (.cnd (.v 21) (.skip) (.exit 0))) (.blk 1 (.seq (.reg [ oC 22 3,oU 23 (.lenS (.v 22)),oU 24 (.ari .sub .i64 (.v 23) (.k (.int .i64 9))),oU 25 (.mm true [.v 24,.k (.int .i64 0)]),oC 6 25] [2,3,4,5,6]) (.seq (.reg [ oC 27 3,oC 28 6,oU 29 (.slS (.v 27) (some (.v 28)) none),oU 30 (.call 147 [.v 29,.k (.int .i64 10),.k (.int .i64 64)]),oC 26 30,oU 31 (.ext 26 0),oU 32 (.ext 26 1),oC 7 31,oC 8 32] [2,3,4,5,6,7]) (.reg [ oU 33 (.tk 5),oC 34 7,oU 35 (.bldS 123 [.int .u64 0] 1 [(0,1,.v 34)]),oU 36 (.app 123 1 8 (.v 33) (.v 35)),oC 37 3,oC 38 6,oU 39 (.slS (.v 37) none (some (.v 38))),oU 5 (.tk 36),oC 3 39] [2,3,4,5]))))))) (.seq (.reg [ oC 40 4,oU 41 (.tk 5),oU 42 (.call 148 [.v 41]),oU 43 (.bld [.bool false,.sl 0 []] [(0,1,.v 40),(1,1,.v 42)]),⟨none,.st 2 (.v 2) (.v 43),none⟩] [2]) (.ret)))))
def rs121 : List RV := [.c 2 true 2]
theorem chk121 : chkFn Tryz.prog Tryz.f121 1 pc121 rs121 = true := by kernel_rfl
theorem rule121 : Rl 121 1 pc121 rs121 := rlM Tryz.func121 chk121

/-- klippe/integer.divide -/
def pc122 : PC := .seq (.reg [ oU 3 (.bx 1 (.v 1)),oU 4 (.alG 123),oU 5 (.nil 123)] [0,3,4,5,1000004]) (.seq (.seq (.reg [ oU 14 (.mv (.v 0)),oU 15 (.ld false 1 (.v 3)),oU 16 (.call 149 [.o 14 0,.v 15]),oU 17 (.ci .lss (.v 16) (.k (.int .i64 0)))] [0,3,4,5,17,1000004]) (.cnd (.v 17) (.seq (.reg [ oU 18 (.tk 0),⟨none,.sgP 4 (.k (.sl 0 [])) [],none⟩,oU 5 (.tk 18)] [4,5,1000004]) (.ret)) (.skip))) (.seq (.seq (.reg [ oU 19 (.ld false 1 (.v 3)),oU 20 (.len (.v 19)),oU 21 (.ci .eql (.v 20) (.k (.int .i64 1)))] [0,3,4,5,21,1000004]) (.cnd (.v 21) (.seq (.reg [ oU 22 (.mv (.v 0)),oU 23 (.len (.o 22 0)),oU 24 (.mkS 123 [.int .u64 0] 8 (.v 23) (.v 23)),⟨none,.sgO 4 (.v 24) [],none⟩] [0,3,4,1000004]) (.seq (.reg [ oU 6 (.alloc [.int .u64 0]),⟨none,.st 1 (.v 6) (.k (.int .u64 0)),none⟩] [0,3,4,6,1000004]) (.seq (.seq (.reg [ oU 25 (.tk 0),oU 26 (.call 150 [.v 25])] [3,4,6,26,1000004]) (.blk 0 (.rfn 171 false 1 26 27 28 [7,8,27,28,29,30,31,32,33,34,35,36,37,38,39,40,41,42,43,44,45] (.seq (.reg [ oC 7 27] [3,4,6,7,26,28,1000004]) (.reg [ oC 8 28] [3,4,6,7,8,26,1000004])) (.blk 1 (.seq (.reg [ oU 29 (.ld false 1 (.v 6)),oU 30 (.ari .mul .u64 (.v 29) (.k (.int .u64 1000000000))),oC 31 8,oU 32 (.ari .add .u64 (.v 30) (.v 31)),⟨none,.st 1 (.v 6) (.v 32),none⟩] [3,4,6,7,26,1000004]) (.reg [ oU 33 (.lg 4),oC 34 7,oU 35 (.ld false 1 (.v 6)),oU 36 (.ld false 1 (.v 3)),oU 37 (.ia 1 (.v 36) (.k (.int .i64 0))),oU 38 (.ld false 1 (.v 37)),oU 39 (.ari .quo .u64 (.v 35) (.v 38)),oU 40 (.ld false 1 (.v 6)),oU 41 (.ld false 1 (.v 3)),oU 42 (.ia 1 (.v 41) (.k (.int .i64 0))),oU 43 (.ld false 1 (.v 42)),oU 44 (.ari .rem .u64 (.v 40) (.v 43)),oU 45 (.ia 1 (.o 33 1000004) (.v 34)),⟨none,.st 1 (.o 45 1000004) (.v 39),none⟩,⟨none,.st 1 (.v 6) (.v 44),none⟩] [3,4,6,26,1000004]))) [3,4,6,26,1000004]))) (.seq (.reg [ oU 46 (.lg 4),oU 47 (.call 148 [.o 46 1000004]),oU 48 (.ld false 1 (.v 6)),oU 49 (.bldS 123 [.int .u64 0] 1 [(0,1,.v 48)]),oU 50 (.call 148 [.v 49]),⟨none,.sgP 4 (.v 47) [46],none⟩,oU 5 (.tk 50)] [4,5,1000004]) (.ret))))) (.skip))) (.seq (.reg [ oU 51 (.ld false 1 (.v 3)),oU 52 (.ld false 1 (.v 3)),oU 53 (.len (.v 52)),oU 54 (.ari .sub .i64 (.v 53) (.k (.int .i64 1))),oU 55 (.ia 1 (.v 51) (.v 54)),oU 56 (.ld false 1 (.v 55)),oU 57 (.ari .add .u64 (.v 56) (.k (.int .u64 1))),oU 58 (.ari .quo .u64 (.k (.int .u64 1000000000)) (.v 57)),oC 9 58] [0,3,4,5,9,1000004]) (.seq (.reg [ oU 59 (.sh (.v 0)),oC 60 9,oU 61 (.call 151 [.v 59,.v 60]),oU 62 (.ld false 1 (.v 3)),oC 63 9,oU 64 (.call 151 [.v 62,.v 63]),oU 0 (.tk 61),⟨none,.st 1 (.v 3) (.v 64),none⟩] [0,3,4,5,9,1000004]) (.seq (.reg [ oU 65 (.mv (.v 0)),oU 66 (.len (.o 65 0)),oU 67 (.mkS 123 [.int .u64 0] 8 (.v 66) (.v 66)),⟨none,.sgO 4 (.v 67) [],none⟩] [0,3,4,5,9,1000004]) (.seq (.reg [ oU 68 (.ld false 1 (.v 3)),oU 69 (.ld false 1 (.v 3)),oU 70 (.len (.v 69)),oU 71 (.ari .sub .i64 (.v 70) (.k (.int .i64 1))),oU 72 (.ia 1 (.v 68) (.v 71)),oU 73 (.ld false 1 (.v 72)),oC 10 73] [0,3,4,5,9,10,1000004]) (.seq (.seq (.reg [ oU 74 (.mv (.v 0)),oU 75 (.len (.o 74 0)),oU 76 (.ari .sub .i64 (.v 75) (.k (.int .i64 1))),oC 11 76] [0,3,4,5,9,10,11,1000004]) (.blk 2 (.loop (.seq (.seq (.reg [ oC 77 11,oU 78 (.ci .geq (.v 77) (.k (.int .i64 0)))] [0,3,4,5,9,10,11,78,1000004]) (.cnd (.v 78) (.skip) (.exit 2))) (.seq (.blk 3 (.seq (.reg [ oU 81 (.mv (.v 0)),oC 82 11,oU 83 (.ia 1 (.o 81 0) (.v 82)),oU 84 (.ld false 1 (.o 83 0)),oU 85 (.bldS 123 [.int .u64 0] 1 [(0,1,.v 84)]),oU 86 (.sh (.v 5)),oU 87 (.app 123 1 8 (.v 85) (.v 86)),oU 88 (.call 148 [.v 87]),oU 5 (.tk 88)] [0,3,4,5,9,10,11,1000004]) (.seq (.seq (.reg [ oU 89 (.mv (.v 5)),oU 90 (.ld false 1 (.v 3)),oU 91 (.call 149 [.o 89 5,.v 90]),oU 92 (.ci .lss (.v 91) (.k (.int .i64 0)))] [0,3,4,5,9,10,11,92,1000004]) (.cnd (.v 92) (.exit 3) (.skip))) (.seq (.reg [ oU 93 (.mv (.v 5)),oU 94 (.mv (.v 5)),oU 95 (.len (.o 94 5)),oU 96 (.ari .sub .i64 (.v 95) (.k (.int .i64 1))),oU 97 (.ia 1 (.o 93 5) (.v 96)),oU 98 (.ld false 1 (.o 97 5)),oC 12 98] [0,3,4,5,9,10,11,12,1000004]) (.seq (.seq (.reg [ oU 99 (.mv (.v 5)),oU 100 (.len (.o 99 5)),oU 101 (.ld false 1 (.v 3)),oU 102 (.len (.v 101)),oU 103 (.ci .gtr (.v 100) (.v 102))] [0,3,4,5,9,10,11,12,103,1000004]) (.cnd (.v 103) (.reg [ oC 104 12,oU 105 (.ari .mul .u64 (.v 104) (.k (.int .u64 1000000000))),oU 106 (.mv (.v 5)),oU 107 (.mv (.v 5)),oU 108 (.len (.o 107 5)),oU 109 (.ari .sub .i64 (.v 108) (.k (.int .i64 2))),oU 110 (.ia 1 (.o 106 5) (.v 109)),oU 111 (.ld false 1 (.o 110 5)),oU 112 (.ari .add .u64 (.v 105) (.v 111)),oC 12 112] [0,3,4,5,9,10,11,12,1000004]) (.skip))) (.seq (.reg [ oC 113 12,oC 114 10,oU 115 (.ari .quo .u64 (.v 113) (.v 114)),oU 116 (.mm false [.v 115,.k (.int .u64 999999999)]),oC 12 116] [0,3,4,5,9,10,11,12,1000004]) (.seq (.reg [ oU 117 (.ld false 1 (.v 3)),oC 118 12,oU 119 (.call 151 [.v 117,.v 118]),oU 13 (.tk 119)] [0,3,4,5,9,10,11,12,13,1000004]) (.seq (.blk 4 (.loop (.seq (.seq (.reg [ oU 120 (.mv (.v 13)),oU 121 (.mv (.v 5)),oU 122 (.call 149 [.o 120 13,.o 121 5]),oU 123 (.ci .gtr (.v 122) (.k (.int .i64 0)))] [0,3,4,5,9,10,11,12,13,123,1000004]) (.cnd (.v 123) (.skip) (.exit 4))) (.blk 5 (.seq (.reg [ oU 124 (.sh (.v 13)),oU 125 (.ld false 1 (.v 3)),oU 126 (.call 152 [.v 124,.v 125]),oU 13 (.tk 126)] [0,3,4,5,9,10,11,12,13,1000004]) (.reg [ oC 127 12,oU 128 (.ari .sub .u64 (.v 127) (.k (.int .u64 1))),oC 12 128] [0,3,4,5,9,10,11,12,13,1000004])))))) (.reg [ oU 129 (.lg 4),oC 130 11,oC 131 12,oU 132 (.sh (.v 5)),oU 133 (.tk 13),oU 134 (.call 152 [.v 132,.v 133]),oU 135 (.ia 1 (.o 129 1000004) (.v 130)),⟨none,.st 1 (.o 135 1000004) (.v 131),none⟩,oU 5 (.tk 134)] [0,3,4,5,9,10,11,1000004]))))))))) (.reg [ oC 79 11,oU 80 (.ari .sub .i64 (.v 79) (.k (.int .i64 1))),oC 11 80] [0,3,4,5,9,10,11,1000004])))))) (.seq (.reg [ oU 137 (.sh (.v 5)),oC 138 9,oU 139 (.bldS 123 [.int .u64 0] 1 [(0,1,.v 138)]),oU 140 (.call 122 [.v 137,.v 139]),oC 136 140,oU 141 (.ext 136 0),oU 142 (.ext 136 1),oC 5 141] [4,5,1000004]) (.seq (.reg [ oU 143 (.lg 4),oU 144 (.call 148 [.o 143 1000004]),oU 145 (.sh (.v 5)),⟨none,.sgP 4 (.v 144) [143],none⟩,oU 5 (.tk 145)] [4,5,1000004]) (.ret))))))))))
def rs122 : List RV := [.c 4 false 1, .t 5]
theorem chk122 : chkFnR Tryz.prog Tryz.f122 2 pc122 rs122 = true := by kernel_rfl
theorem nc122 : pc122.noCus = true := by kernel_rfl
theorem rule122 {L : World → Prop} (hL : ∀ w w', L w → Below w.heap.size w w' → L w') (hbk : ∀ q ∈ pc122.backs, IsBack Tryz.prog q.1 q.2.1 q.2.2) {ds : List D} {r : D} (hr0 : aliasOf r = none) (hlen : ds.length = 2) (hp : ds.all (fun d => (aliasOf d).isNone) = true)
    (h : wC (Con Tryz.prog L) pc122 (retQ rs122 r) (initE 0 ds)) : Con Tryz.prog L 122 ds r :=
  con_chkR hL Tryz.func122 chk122 hbk (fun c _ q hq => by rw [cusL_nil c _ nc122] at hq; cases hq) hr0 hlen hp (wC_sound h)

/-- klippe/integer.times -/
def pc124 : PC := .seq (.reg [ oU 4 (.nil 123)] [0,1]) (.seq (.reg [ oC 12 0,oU 13 (.len (.v 12)),oC 14 1,oU 15 (.len (.v 14)),oU 16 (.ari .add .i64 (.v 13) (.v 15)),oU 17 (.ari .add .i64 (.v 16) (.k (.int .i64 1))),oU 18 (.mkS 123 [.int .u64 0] 8 (.v 17) (.v 17)),oU 5 (.tk 18)] [0,1,5]) (.seq (.seq (.reg [ oC 19 0,oU 20 (.len (.v 19)),oU 21 (.cp (.k (.int .i64 0)))] [1,5,19,20,21]) (.blk 0 (.loop (.seq (.reg [ oU 22 (.ci .lss (.v 21) (.v 20))] [1,5,19,20,21,22]) (.seq (.cnd (.v 22) (.skip) (.exit 0)) (.seq (.blk 1 (.seq (.reg [ oC 23 21,oU 24 (.ia 1 (.v 19) (.v 21)),oU 25 (.ld false 1 (.v 24)),oC 6 23,oC 7 25] [1,5,6,7,19,20,21]) (.seq (.reg [ oU 8 (.cp (.k (.int .u64 0)))] [1,5,6,7,8,19,20,21]) (.seq (.seq (.reg [ oC 26 1,oU 27 (.len (.v 26)),oU 28 (.cp (.k (.int .i64 0)))] [1,5,6,7,8,19,20,21,26,27,28]) (.blk 2 (.loop (.seq (.reg [ oU 29 (.ci .lss (.v 28) (.v 27))] [1,5,6,7,8,19,20,21,26,27,28,29]) (.seq (.cnd (.v 29) (.skip) (.exit 2)) (.seq (.blk 3 (.seq (.reg [ oC 30 28,oU 31 (.ia 1 (.v 26) (.v 28)),oU 32 (.ld false 1 (.v 31)),oC 9 30,oC 10 32] [1,5,6,7,8,9,10,19,20,21,26,27,28]) (.seq (.reg [ oC 33 8,oU 34 (.mv (.v 5)),oC 35 6,oC 36 9,oU 37 (.ari .add .i64 (.v 35) (.v 36)),oU 38 (.ia 1 (.o 34 5) (.v 37)),oU 39 (.ld false 1 (.o 38 5)),oC 40 7,oC 41 10,oU 42 (.ari .mul .u64 (.v 40) (.v 41)),oU 43 (.ari .add .u64 (.v 39) (.v 42)),oU 44 (.ari .add .u64 (.v 33) (.v 43)),oC 8 44] [1,5,6,7,8,9,19,20,21,26,27,28]) (.seq (.reg [ oU 45 (.mv (.v 5)),oC 46 6,oC 47 9,oU 48 (.ari .add .i64 (.v 46) (.v 47)),oC 49 8,oU 50 (.ari .rem .u64 (.v 49) (.k (.int .u64 1000000000))),oU 51 (.ia 1 (.o 45 5) (.v 48)),⟨none,.st 1 (.o 51 5) (.v 50),none⟩] [1,5,6,7,8,19,20,21,26,27,28]) (.reg [ oC 52 8,oU 53 (.ari .quo .u64 (.v 52) (.k (.int .u64 1000000000))),oC 8 53] [1,5,6,7,8,19,20,21,26,27,28]))))) (.reg [ oU 54 (.ari .add .i64 (.v 28) (.k (.int .i64 1))),oC 28 54] [1,5,6,7,8,19,20,21,26,27,28]))))))) (.seq (.reg [ oC 55 6,oC 56 1,oU 57 (.len (.v 56)),oU 58 (.ari .add .i64 (.v 55) (.v 57)),oC 11 58] [1,5,8,11,19,20,21]) (.blk 4 (.loop (.seq (.seq (.reg [ oC 59 8,oU 60 (.ci .gtr (.v 59) (.k (.int .u64 0)))] [1,5,8,11,19,20,21,60]) (.cnd (.v 60) (.skip) (.exit 4))) (.seq (.blk 5 (.seq (.reg [ oC 63 8,oU 64 (.mv (.v 5)),oC 65 11,oU 66 (.ia 1 (.o 64 5) (.v 65)),oU 67 (.ld false 1 (.o 66 5)),oU 68 (.ari .add .u64 (.v 63) (.v 67)),oC 8 68] [1,5,8,11,19,20,21]) (.seq (.reg [ oU 69 (.mv (.v 5)),oC 70 11,oC 71 8,oU 72 (.ari .rem .u64 (.v 71) (.k (.int .u64 1000000000))),oU 73 (.ia 1 (.o 69 5) (.v 70)),⟨none,.st 1 (.o 73 5) (.v 72),none⟩] [1,5,8,11,19,20,21]) (.reg [ oC 74 8,oU 75 (.ari .quo .u64 (.v 74) (.k (.int .u64 1000000000))),oC 8 75] [1,5,8,11,19,20,21])))) (.reg [ oC 61 11,oU 62 (.ari .add .i64 (.v 61) (.k (.int .i64 1))),oC 11 62] [1,5,8,11,19,20,21])))))))))) (.reg [ oU 76 (.ari .add .i64 (.v 21) (.k (.int .i64 1))),oC 21 76] [1,5,19,20,21]))))))) (.seq (.reg [ oU 77 (.tk 5),oU 78 (.call 148 [.v 77]),oU 4 (.tk 78)] [4]) (.ret))))
def rs124 : List RV := [.t 4]
theorem chk124 : chkFn Tryz.prog Tryz.f124 2 pc124 rs124 = true := by kernel_rfl
theorem rule124 : Rl 124 2 pc124 rs124 := rlM Tryz.func124 chk124

/-- klippe/integer.Neg -/
def pc125 : PC := .seq (.reg [ oU 2 (.cp (.k (.str [])))] [0]) (.seq (.seq (.reg [ oC 3 0,oU 4 (.call 116 [.v 3])] [0,4]) (.blk 0 (.seq (.reg [ oU 6 (.ci .eql (.v 4) (.k (.int .i64 1))),oC 5 6] [0,4,5]) (.cnd (.v 5) (.seq (.reg [ oC 7 0,oU 8 (.cat (.k (.str [45])) (.v 7)),oC 2 8] [2]) (.ret)) (.seq (.reg [ oU 10 (.ci .eql (.v 4) (.k (.int .i64 (-1)))),oC 9 10] [0,9]) (.cnd (.v 9) (.seq (.reg [ oC 11 0,oU 12 (.slS (.v 11) (some (.k (.int .i64 1))) none),oC 2 12] [2]) (.ret)) (.skip))))))) (.seq (.reg [ oC 13 0,oC 2 13] [2]) (.ret)))
def rs125 : List RV := [.t 2]
theorem chk125 : chkFn Tryz.prog Tryz.f125 1 pc125 rs125 = true := by kernel_rfl
theorem rule125 : Rl 125 1 pc125 rs125 := rlM Tryz.func125 chk125

/-- klippe/integer.DivMod -/
def pc126 : PC := .seq (.reg [ oU 4 (.cp (.k (.str []))),oU 5 (.cp (.k (.str []))),oU 6 (.cp (.k (.int .i64 0)))] [0,1]) (.seq (.seq (.reg [ oC 11 1,oU 12 (.sc .eql (.v 11) (.k (.str [48])))] [0,1,12]) (.cnd (.v 12) (.seq (.reg [ oU 4 (.cp (.k (.str []))),oU 5 (.cp (.k (.str []))),oU 6 (.cp (.k (.int .i64 17)))] [4,5,6]) (.ret)) (.skip))) (.seq (.reg [ oC 13 0,oU 14 (.call 121 [.v 13]),oC 15 1,oU 16 (.call 121 [.v 15]),oU 7 (.alloc [.bool false,.sl 0 []]),oU 8 (.alloc [.bool false,.sl 0 []]),⟨none,.st 2 (.v 7) (.v 14),none⟩,⟨none,.st 2 (.v 8) (.v 16),none⟩] [7,8]) (.seq (.reg [ oU 18 (.fa 1 (.v 7)),oU 19 (.ld false 1 (.o 18 7)),oU 20 (.fa 1 (.v 8)),oU 21 (.ld false 1 (.o 20 8)),oU 22 (.call 122 [.v 19,.v 21]),oC 17 22,oU 23 (.ext 17 0),oU 24 (.ext 17 1),oC 9 23,oC 10 24] [7,8,9,10]) (.seq (.seq (.reg [ oU 25 (.fa 0 (.v 7)),oU 26 (.ld false 1 (.o 25 7)),oC 27 26,⟨some 28,.mv (.v 10),(some (27,true))⟩,⟨some 29,.len (.o 28 10),(some (27,true))⟩,⟨some 30,.ci .gtr (.v 29) (.k (.int .i64 0)),(some (27,true))⟩,oU 31 (.pick (.v 27) (.v 30) (.k (.bool false)))] [7,8,9,10,31]) (.cnd (.v 31) (.reg [ oU 32 (.sh (.v 9)),oU 33 (.bldS 123 [.int .u64 0] 1 [(0,1,.k (.int .u64 1))]),oU 34 (.call 157 [.v 32,.v 33]),oU 35 (.fa 1 (.v 8)),oU 36 (.ld false 1 (.o 35 8)),oU 37 (.sh (.v 10)),oU 38 (.call 152 [.v 36,.v 37]),oU 9 (.tk 34),oU 10 (.tk 38)] [7,8,9,10]) (.skip))) (.seq (.reg [ oU 39 (.fa 0 (.v 7)),oU 40 (.ld false 1 (.o 39 7)),oU 41 (.fa 0 (.v 8)),oU 42 (.ld false 1 (.o 41 8)),oU 43 (.eqb true (.v 40) (.v 42)),oU 44 (.sh (.v 9)),oU 45 (.bld [.bool false,.sl 0 []] [(0,1,.v 43),(1,1,.v 44)]),oU 46 (.call 123 [.v 45]),oU 47 (.sh (.v 10)),oU 48 (.bld [.bool false,.sl 0 []] [(0,1,.k (.bool false)),(1,1,.v 47)]),oU 49 (.call 123 [.v 48]),oC 4 46,oC 5 49,oU 6 (.cp (.k (.int .i64 0)))] [4,5,6]) (.ret))))))
def rs126 : List RV := [.t 4, .t 5, .t 6]
theorem chk126 : chkFn Tryz.prog Tryz.f126 2 pc126 rs126 = true := by kernel_rfl
theorem rule126 : Rl 126 2 pc126 rs126 := rlM Tryz.func126 chk126

/-- klippe/rational.join -/
def pc127 : PC := .seq (.reg [ oU 4 (.cp (.k (.str [])))] [0,1]) (.seq (.seq (.reg [ oC 5 1,oU 6 (.sc .eql (.v 5) (.k (.str [49])))] [0,1,6]) (.cnd (.v 6) (.seq (.reg [ oC 7 0,oC 4 7] [4]) (.ret)) (.skip))) (.seq (.reg [ oC 8 0,oU 9 (.cat (.v 8) (.k (.str [47]))),oC 10 1,oU 11 (.cat (.v 9) (.v 10)),oC 4 11] [4]) (.ret)))
def rs127 : List RV := [.t 4]
theorem chk127 : chkFn Tryz.prog Tryz.f127 2 pc127 rs127 = true := by kernel_rfl
theorem rule127 : Rl 127 2 pc127 rs127 := rlM Tryz.func127 chk127

/-- klippe/integer.Add -/
def pc128 : PC := .seq (.reg [ oU 4 (.cp (.k (.str [])))] [0,1]) (.seq (.seq (.reg [ oC 12 0,oU 13 (.call 119 [.v 12,.k (.int .i64 18)]),oC 11 13,oU 14 (.ext 11 0),oU 15 (.ext 11 1),oC 5 14,oC 6 15] [0,1,5,6]) (.seq (.reg [ oC 16 6] [0,1,5,16]) (.cnd (.v 16) (.seq (.reg [ oC 18 1,oU 19 (.call 119 [.v 18,.k (.int .i64 18)]),oC 17 19,oU 20 (.ext 17 0),oU 21 (.ext 17 1),oC 7 20,oC 8 21] [0,1,5,7,8]) (.seq (.reg [ oC 22 8] [0,1,5,7,22]) (.cnd (.v 22) (.seq (.reg [ oC 23 5,oC 24 7,oU 25 (.ari .add .i64 (.v 23) (.v 24)),oU 26 (.call 120 [.v 25]),oC 4 26] [4]) (.ret)) (.skip)))) (.skip)))) (.seq (.reg [ oC 27 0,oU 28 (.call 121 [.v 27]),oC 29 1,oU 30 (.call 121 [.v 29]),oU 9 (.alloc [.bool false,.sl 0 []]),oU 10 (.alloc [.bool false,.sl 0 []]),⟨none,.st 2 (.v 9) (.v 28),none⟩,⟨none,.st 2 (.v 10) (.v 30),none⟩] [9,10]) (.seq (.seq (.reg [ oU 31 (.fa 0 (.v 9)),oU 32 (.ld false 1 (.o 31 9)),oU 33 (.fa 0 (.v 10)),oU 34 (.ld false 1 (.o 33 10)),oU 35 (.eqb false (.v 32) (.v 34))] [9,10,35]) (.cnd (.v 35) (.seq (.reg [ oU 36 (.fa 0 (.v 9)),oU 37 (.ld false 1 (.o 36 9)),oU 38 (.fa 1 (.v 9)),oU 39 (.ld false 1 (.o 38 9)),oU 40 (.fa 1 (.v 10)),oU 41 (.ld false 1 (.o 40 10)),oU 42 (.call 157 [.v 39,.v 41]),oU 43 (.bld [.bool false,.sl 0 []] [(0,1,.v 37),(1,1,.v 42)]),oU 44 (.call 123 [.v 43]),oC 4 44] [4]) (.ret)) (.skip))) (.seq (.seq (.reg [ oU 45 (.fa 1 (.v 9)),oU 46 (.ld false 1 (.o 45 9)),oU 47 (.fa 1 (.v 10)),oU 48 (.ld false 1 (.o 47 10)),oU 49 (.call 149 [.v 46,.v 48]),oU 50 (.ci .lss (.v 49) (.k (.int .i64 0)))] [9,10,50]) (.cnd (.v 50) (.reg [ oU 51 (.ld true 2 (.v 10)),oU 52 (.ld true 2 (.v 9)),⟨none,.st 2 (.v 9) (.v 51),none⟩,⟨none,.st 2 (.v 10) (.v 52),none⟩] [9,10]) (.skip))) (.seq (.reg [ oU 53 (.fa 0 (.v 9)),oU 54 (.ld false 1 (.o 53 9)),oU 55 (.fa 1 (.v 9)),oU 56 (.ld false 1 (.o 55 9)),oU 57 (.fa 1 (.v 10)),oU 58 (.ld false 1 (.o 57 10)),oU 59 (.call 152 [.v 56,.v 58]),oU 60 (.bld [.bool false,.sl 0 []] [(0,1,.v 54),(1,1,.v 59)]),oU 61 (.call 123 [.v 60]),oC 4 61] [4]) (.ret))))))
def rs128 : List RV := [.t 4]
theorem chk128 : chkFn Tryz.prog Tryz.f128 2 pc128 rs128 = true := by kernel_rfl
theorem rule128 : Rl 128 2 pc128 rs128 := rlM Tryz.func128 chk128

/-- klippe/klipperef01.brief -/
def pc131 : PC := .seq (.reg [ oU 2 (.cp (.k (.int .i64 0))),oU 3 (.cp (.k (.bool false)))] [0]) (.seq (.reg [ oC 7 0,oU 8 (.call 92 [.v 7]),oC 6 8,oU 9 (.ext 6 0),oU 10 (.ext 6 1),oC 4 9,oC 5 10] [0,5]) (.seq (.seq (.reg [ oC 11 5,oU 12 (.lenS (.v 11)),oU 13 (.ci .gtr (.v 12) (.k (.int .i64 17)))] [0,13]) (.cnd (.v 13) (.seq (.reg [ oU 2 (.cp (.k (.int .i64 0))),oU 3 (.cp (.k (.bool false)))] [2,3]) (.ret)) (.skip))) (.seq (.reg [ oC 14 0,oU 15 (.call 136 [.v 14]),oU 16 (.ext 15 0),oU 17 (.ext 15 1),oC 2 16,oC 3 17] [2,3]) (.ret))))
def rs131 : List RV := [.t 2, .t 3]
theorem chk131 : chkFn Tryz.prog Tryz.f131 1 pc131 rs131 = true := by kernel_rfl
theorem rule131 : Rl 131 1 pc131 rs131 := rlM Tryz.func131 chk131

/-- klippe/klipperef01.parts -/
def pc132 : PC := .seq (.reg [ oU 4 (.nil 3),oU 5 (.nil 3)] [0,1]) (.seq (.reg [ oC 12 0,oU 13 (.len (.v 12)),oU 14 (.mkS 3 [.int .i64 0] 8 (.v 13) (.v 13)),oU 6 (.tk 14)] [0,1,6]) (.seq (.reg [ oU 7 (.nil 3)] [0,1,6,7]) (.seq (.seq (.reg [ oC 15 0,oU 16 (.len (.v 15)),oU 17 (.ari .sub .i64 (.v 16) (.k (.int .i64 1))),oC 8 17] [0,1,6,7,8]) (.blk 0 (.loop (.seq (.seq (.reg [ oC 18 8,oU 19 (.ci .geq (.v 18) (.k (.int .i64 0)))] [0,1,6,7,8,19]) (.cnd (.v 19) (.skip) (.exit 0))) (.seq (.blk 1 (.seq (.reg [ oC 22 0,oC 23 8,oU 24 (.ia 1 (.v 22) (.v 23)),oU 25 (.ld false 1 (.v 24)),oU 26 (.bldS 3 [.int .i64 0] 1 [(0,1,.v 25)]),oU 27 (.sh (.v 7)),oU 28 (.app 3 1 8 (.v 26) (.v 27)),oU 29 (.call 159 [.v 28]),oU 7 (.tk 29)] [0,1,6,7,8]) (.seq (.reg [ oU 9 (.cp (.k (.int .i64 0))),oU 10 (.cp (.k (.int .i64 9999)))] [0,1,6,7,8,9,10]) (.seq (.blk 2 (.loop (.seq (.seq (.reg [ oC 30 9,oC 31 10,oU 32 (.ci .lss (.v 30) (.v 31))] [0,1,6,7,8,9,10,32]) (.cnd (.v 32) (.skip) (.exit 2))) (.blk 3 (.seq (.reg [ oC 33 9,oC 34 10,oU 35 (.ari .add .i64 (.v 33) (.v 34)),oU 36 (.ari .add .i64 (.v 35) (.k (.int .i64 1))),oU 37 (.ari .quo .i64 (.v 36) (.k (.int .i64 2))),oC 11 37] [0,1,6,7,8,9,10,11]) (.seq (.reg [ oU 38 (.mv (.v 7)),oC 39 1,oC 40 11,oU 41 (.call 134 [.k (.sl 0 []),.v 39,.v 40,.k (.int .i64 0)]),oU 42 (.call 158 [.o 38 7,.v 41])] [0,1,6,7,8,9,10,11,42]) (.cnd (.v 42) (.reg [ oC 43 11,oU 44 (.ari .sub .i64 (.v 43) (.k (.int .i64 1))),oC 10 44] [0,1,6,7,8,9,10]) (.reg [ oC 45 11,oC 9 45] [0,1,6,7,8,9,10])))))))) (.seq (.reg [ oU 46 (.mv (.v 6)),oC 47 8,oC 48 9,oU 49 (.ia 1 (.o 46 6) (.v 47)),⟨none,.st 1 (.o 49 6) (.v 48),none⟩] [0,1,6,7,8,9]) (.reg [ oU 50 (.sh (.v 7)),oC 51 1,oC 52 9,oU 53 (.ng .i64 (.v 52)),oU 54 (.call 134 [.v 50,.v 51,.v 53,.k (.int .i64 0)]),oU 7 (.tk 54)] [0,1,6,7,8])))))) (.reg [ oC 20 8,oU 21 (.ari .sub .i64 (.v 20) (.k (.int .i64 1))),oC 8 21] [0,1,6,7,8])))))) (.seq (.reg [ oU 55 (.tk 6),oU 56 (.call 159 [.v 55]),oU 57 (.tk 7),oU 4 (.tk 56),oU 5 (.tk 57)] [4,5]) (.ret)))))
def rs132 : List RV := [.t 4, .t 5]
theorem chk132 : chkFn Tryz.prog Tryz.f132 2 pc132 rs132 = true := by kernel_rfl
theorem rule132 : Rl 132 2 pc132 rs132 := rlM Tryz.func132 chk132

/-- klippe/klipperef01.take -/
def pc133 : PC := .seq (.reg [ oU 2 (.nil 3)] [0]) (.seq (.reg [ oU 3 (.nil 3)] [0,3]) (.seq (.seq (.reg [ oC 7 0,oU 8 (.lenS (.v 7)),oC 4 8] [0,3,4]) (.blk 0 (.loop (.seq (.seq (.reg [ oC 9 4,oU 10 (.ci .gtr (.v 9) (.k (.int .i64 0)))] [0,3,4,10]) (.cnd (.v 10) (.skip) (.exit 0))) (.seq (.blk 1 (.seq (.reg [ oU 5 (.cp (.k (.int .i64 0)))] [0,3,4,5]) (.seq (.seq (.reg [ oC 13 4,oU 14 (.ari .sub .i64 (.v 13) (.k (.int .i64 4))),oU 15 (.mm true [.k (.int .i64 0),.v 14]),oC 6 15] [0,3,4,5,6]) (.blk 2 (.loop (.seq (.seq (.reg [ oC 16 6,oC 17 4,oU 18 (.ci .lss (.v 16) (.v 17))] [0,3,4,5,6,18]) (.cnd (.v 18) (.skip) (.exit 2))) (.seq (.blk 3 (.reg [ oC 21 5,oU 22 (.ari .mul .i64 (.k (.int .i64 10)) (.v 21)),oC 23 0,oC 24 6,oU 25 (.ix (.v 23) (.v 24)),oU 26 (.cvI .i64 (.v 25)),oU 27 (.ari .add .i64 (.v 22) (.v 26)),oU 28 (.ari .sub .i64 (.v 27) (.k (.int .i64 48))),oC 5 28] [0,3,4,5,6])) (.reg [ oC 19 6,oU 20 (.ari .add .i64 (.v 19) (.k (.int .i64 1))),oC 6 20] [0,3,4,5,6])))))) (.reg [ oU 29 (.tk 3),oC 30 5,oU 31 (.bldS 3 [.int .i64 0] 1 [(0,1,.v 30)]),oU 32 (.app 3 1 8 (.v 29) (.v 31)),oU 3 (.tk 32)] [0,3,4])))) (.reg [ oC 11 4,oU 12 (.ari .sub .i64 (.v 11) (.k (.int .i64 4))),oC 4 12] [0,3,4])))))) (.seq (.reg [ oU 33 (.tk 3),oU 34 (.call 159 [.v 33]),oU 2 (.tk 34)] [2]) (.ret))))
def rs133 : List RV := [.t 2]
theorem chk133 : chkFn Tryz.prog Tryz.f133 1 pc133 rs133 = true := by kernel_rfl
theorem rule133 : Rl 133 1 pc133 rs133 := rlM Tryz.func133 chk133

/-- klippe/klipperef01.joined -/
def pc134 : PC := .seq (.reg [ oU 8 (.nil 3)] [0,1,2,3]) (.seq (.reg [ oU 11 (.bldS 3 [.int .i64 0] 0 []),oC 12 0,oU 13 (.app 3 1 8 (.v 11) (.v 12)),oU 9 (.tk 13)] [1,2,3,9]) (.seq (.seq (.reg [ oU 10 (.cp (.k (.int .i64 0)))] [1,2,3,9,10]) (.blk 0 (.loop (.seq (.seq (.reg [ oC 14 10,oC 15 1,oU 16 (.len (.v 15)),oU 17 (.ci .lss (.v 14) (.v 16))] [1,2,3,9,10,17]) (.cnd (.v 17) (.skip) (.exit 0))) (.seq (.blk 1 (.seq (.blk 2 (.loop (.seq (.seq (.reg [ oU 20 (.mv (.v 9)),oU 21 (.len (.o 20 9)),oC 22 10,oC 23 3,oU 24 (.ari .add .i64 (.v 22) (.v 23)),oU 25 (.ci .leq (.v 21) (.v 24))] [1,2,3,9,10,25]) (.cnd (.v 25) (.skip) (.exit 2))) (.blk 3 (.reg [ oU 26 (.tk 9),oU 27 (.bldS 3 [.int .i64 0] 1 [(0,1,.k (.int .i64 0))]),oU 28 (.app 3 1 8 (.v 26) (.v 27)),oU 9 (.tk 28)] [1,2,3,9,10]))))) (.reg [ oU 29 (.mv (.v 9)),oC 30 10,oC 31 3,oU 32 (.ari .add .i64 (.v 30) (.v 31)),oU 33 (.ia 1 (.o 29 9) (.v 32)),oU 34 (.ld false 1 (.o 33 9)),oC 35 2,oC 36 1,oC 37 10,oU 38 (.ia 1 (.v 36) (.v 37)),oU 39 (.ld false 1 (.v 38)),oU 40 (.ari .mul .i64 (.v 35) (.v 39)),oU 41 (.ari .add .i64 (.v 34) (.v 40)),oU 42 (.ia 1 (.o 29 9) (.v 32)),⟨none,.st 1 (.o 42 9) (.v 41),none⟩] [1,2,3,9,10]))) (.reg [ oC 18 10,oU 19 (.ari .add .i64 (.v 18) (.k (.int .i64 1))),oC 10 19] [1,2,3,9,10])))))) (.seq (.reg [ oU 43 (.tk 9),oU 44 (.call 160 [.v 43]),oU 8 (.tk 44)] [8]) (.ret))))
def rs134 : List RV := [.t 8]
theorem chk134 : chkFn Tryz.prog Tryz.f134 4 pc134 rs134 = true := by kernel_rfl
theorem rule134 : Rl 134 4 pc134 rs134 := rlM Tryz.func134 chk134

/-- klippe/klipperef01.made -/
def pc135 : PC := .seq (.reg [ oU 4 (.cp (.k (.str [])))] [0,1]) (.seq (.reg [ oU 5 (.sh (.v 1)),oU 6 (.call 159 [.v 5]),oU 1 (.tk 6)] [0,1]) (.seq (.seq (.reg [ oC 7 0,oC 8 7,⟨some 9,.mv (.v 1),(some (8,true))⟩,⟨some 10,.len (.o 9 1),(some (8,true))⟩,⟨some 11,.ci .gtr (.v 10) (.k (.int .i64 0)),(some (8,true))⟩,oU 12 (.pick (.v 8) (.v 11) (.k (.bool false)))] [1,12]) (.cnd (.v 12) (.seq (.reg [ oU 13 (.tk 1),oU 14 (.call 161 [.v 13]),oU 15 (.cat (.k (.str [45])) (.v 14)),oC 4 15] [4]) (.ret)) (.skip))) (.seq (.reg [ oU 16 (.tk 1),oU 17 (.call 161 [.v 16]),oC 4 17] [4]) (.ret))))
def rs135 : List RV := [.t 4]
theorem chk135 : chkFn Tryz.prog Tryz.f135 2 pc135 rs135 = true := by kernel_rfl
theorem rule135 : Rl 135 2 pc135 rs135 := rlM Tryz.func135 chk135

/-- klippe/klipperef01.Small -/
def pc136 : PC := .seq (.reg [ oU 2 (.cp (.k (.int .i64 0))),oU 3 (.cp (.k (.bool false)))] [0]) (.seq (.reg [ oC 10 0,oU 11 (.call 92 [.v 10]),oC 9 11,oU 12 (.ext 9 0),oU 13 (.ext 9 1),oC 4 12,oC 5 13] [4,5]) (.seq (.seq (.reg [ oC 14 5,oU 15 (.lenS (.v 14)),oU 16 (.ci .gtr (.v 15) (.k (.int .i64 19)))] [4,5,16]) (.cnd (.v 16) (.seq (.reg [ oU 2 (.cp (.k (.int .i64 0))),oU 3 (.cp (.k (.bool false)))] [2,3]) (.ret)) (.skip))) (.seq (.reg [ oU 6 (.cp (.k (.int .i64 0)))] [4,5,6]) (.seq (.seq (.reg [ oU 7 (.cp (.k (.int .i64 0)))] [4,5,6,7]) (.blk 0 (.loop (.seq (.seq (.reg [ oC 17 7,oC 18 5,oU 19 (.lenS (.v 18)),oU 20 (.ci .lss (.v 17) (.v 19))] [4,5,6,7,20]) (.cnd (.v 20) (.skip) (.exit 0))) (.seq (.blk 1 (.seq (.reg [ oC 23 5,oC 24 7,oU 25 (.ix (.v 23) (.v 24)),oU 26 (.cvI .i64 (.v 25)),oU 27 (.ari .sub .i64 (.v 26) (.k (.int .i64 48))),oC 8 27] [4,5,6,7,8]) (.seq (.seq (.reg [ oC 28 6,oC 29 8,oU 30 (.ari .add .i64 (.k (.int .i64 (-9223372036854775808))) (.v 29)),oU 31 (.ari .quo .i64 (.v 30) (.k (.int .i64 10))),oU 32 (.ci .lss (.v 28) (.v 31))] [4,5,6,7,8,32]) (.cnd (.v 32) (.seq (.reg [ oU 2 (.cp (.k (.int .i64 0))),oU 3 (.cp (.k (.bool false)))] [2,3]) (.ret)) (.skip))) (.reg [ oC 33 6,oU 34 (.ari .mul .i64 (.k (.int .i64 10)) (.v 33)),oC 35 8,oU 36 (.ari .sub .i64 (.v 34) (.v 35)),oC 6 36] [4,5,6,7])))) (.reg [ oC 21 7,oU 22 (.ari .add .i64 (.v 21) (.k (.int .i64 1))),oC 7 22] [4,5,6,7])))))) (.seq (.blk 2 (.seq (.reg [ oC 38 4,oC 37 38] [6,37]) (.cnd (.v 37) (.seq (.reg [ oC 39 6,oC 2 39,oU 3 (.cp (.k (.bool true)))] [2,3]) (.ret)) (.seq (.reg [ oC 41 6,oU 42 (.ci .eql (.v 41) (.k (.int .i64 (-9223372036854775808)))),oC 40 42] [6,40]) (.cnd (.v 40) (.seq (.reg [ oU 2 (.cp (.k (.int .i64 0))),oU 3 (.cp (.k (.bool false)))] [2,3]) (.ret)) (.skip)))))) (.seq (.reg [ oC 43 6,oU 44 (.ng .i64 (.v 43)),oC 2 44,oU 3 (.cp (.k (.bool true)))] [2,3]) (.ret)))))))
def rs136 : List RV := [.t 2, .t 3]
theorem chk136 : chkFn Tryz.prog Tryz.f136 1 pc136 rs136 = true := by kernel_rfl
theorem rule136 : Rl 136 1 pc136 rs136 := rlM Tryz.func136 chk136

/-- klippe/klipperef01.times -/
def pc137 : PC := .seq (.reg [ oU 4 (.nil 3)] [0,1]) (.seq (.reg [ oC 8 0,oU 9 (.len (.v 8)),oC 10 1,oU 11 (.len (.v 10)),oU 12 (.ari .add .i64 (.v 9) (.v 11)),oU 13 (.mkS 3 [.int .i64 0] 8 (.v 12) (.v 12)),oU 5 (.tk 13)] [0,1,5]) (.seq (.seq (.reg [ oU 6 (.cp (.k (.int .i64 0)))] [0,1,5,6]) (.blk 0 (.loop (.seq (.seq (.reg [ oC 14 6,oC 15 0,oU 16 (.len (.v 15)),oU 17 (.ci .lss (.v 14) (.v 16))] [0,1,5,6,17]) (.cnd (.v 17) (.skip) (.exit 0))) (.seq (.blk 1 (.seq (.reg [ oU 7 (.cp (.k (.int .i64 0)))] [0,1,5,6,7]) (.blk 2 (.loop (.seq (.seq (.reg [ oC 20 7,oC 21 1,oU 22 (.len (.v 21)),oU 23 (.ci .lss (.v 20) (.v 22))] [0,1,5,6,7,23]) (.cnd (.v 23) (.skip) (.exit 2))) (.seq (.blk 3 (.reg [ oU 26 (.mv (.v 5)),oC 27 6,oC 28 7,oU 29 (.ari .add .i64 (.v 27) (.v 28)),oU 30 (.ia 1 (.o 26 5) (.v 29)),oU 31 (.ld false 1 (.o 30 5)),oC 32 0,oC 33 6,oU 34 (.ia 1 (.v 32) (.v 33)),oU 35 (.ld false 1 (.v 34)),oC 36 1,oC 37 7,oU 38 (.ia 1 (.v 36) (.v 37)),oU 39 (.ld false 1 (.v 38)),oU 40 (.ari .mul .i64 (.v 35) (.v 39)),oU 41 (.ari .add .i64 (.v 31) (.v 40)),oU 42 (.ia 1 (.o 26 5) (.v 29)),⟨none,.st 1 (.o 42 5) (.v 41),none⟩] [0,1,5,6,7])) (.reg [ oC 24 7,oU 25 (.ari .add .i64 (.v 24) (.k (.int .i64 1))),oC 7 25] [0,1,5,6,7]))))))) (.reg [ oC 18 6,oU 19 (.ari .add .i64 (.v 18) (.k (.int .i64 1))),oC 6 19] [0,1,5,6])))))) (.seq (.reg [ oU 43 (.tk 5),oU 44 (.call 160 [.v 43]),oU 4 (.tk 44)] [4]) (.ret))))
def rs137 : List RV := [.t 4]
theorem chk137 : chkFn Tryz.prog Tryz.f137 2 pc137 rs137 = true := by kernel_rfl
theorem rule137 : Rl 137 2 pc137 rs137 := rlM Tryz.func137 chk137

/-- klippe/rational.New -/
def pc140 : PC := .seq (.reg [ oU 4 (.cp (.k (.str []))),oU 5 (.cp (.k (.int .i64 0)))] [0,1]) (.seq (.seq (.reg [ oC 6 1,oU 7 (.call 116 [.v 6]),oU 8 (.ci .eql (.v 7) (.k (.int .i64 0)))] [0,1,8]) (.cnd (.v 8) (.seq (.reg [ oU 4 (.cp (.k (.str []))),oU 5 (.cp (.k (.int .i64 17)))] [4,5]) (.ret)) (.skip))) (.seq (.reg [ oC 9 0,oC 10 1,oU 11 (.call 90 [.v 9,.v 10]),oC 4 11,oU 5 (.cp (.k (.int .i64 0)))] [4,5]) (.ret)))
def rs140 : List RV := [.t 4, .t 5]
theorem chk140 : chkFn Tryz.prog Tryz.f140 2 pc140 rs140 = true := by kernel_rfl
theorem rule140 : Rl 140 2 pc140 rs140 := rlM Tryz.func140 chk140

/-- klippe/stereonet.atLeast -/
def pc141 : PC := .seq (.reg [ oU 6 (.cp (.k (.bool false)))] [0,1,2]) (.seq (.reg [ oC 8 0,oC 9 0,oU 10 (.call 54 [.v 8,.v 9]),oC 11 1,oC 12 1,oU 13 (.call 54 [.v 11,.v 12]),oC 14 2,oU 15 (.call 54 [.v 13,.v 14]),oU 16 (.call 53 [.v 10,.v 15]),oC 7 16] [0,1,7]) (.seq (.seq (.reg [ oC 17 1,oU 18 (.call 52 [.v 17]),oU 19 (.ci .geq (.v 18) (.k (.int .i64 0)))] [0,7,19]) (.cnd (.v 19) (.seq (.reg [ oC 20 0,oU 21 (.call 52 [.v 20]),oU 22 (.ci .geq (.v 21) (.k (.int .i64 0))),oC 23 22,⟨some 24,.cp (.v 7),(some (23,true))⟩,⟨some 25,.ci .geq (.v 24) (.k (.int .i64 0)),(some (23,true))⟩,oU 26 (.pick (.v 23) (.v 25) (.k (.bool false))),oC 6 26] [6]) (.ret)) (.skip))) (.seq (.reg [ oC 27 0,oU 28 (.call 52 [.v 27]),oU 29 (.ci .geq (.v 28) (.k (.int .i64 0))),oC 30 29,⟨some 31,.cp (.v 7),(some (30,false))⟩,⟨some 32,.ci .leq (.v 31) (.k (.int .i64 0)),(some (30,false))⟩,oU 33 (.pick (.v 30) (.k (.bool true)) (.v 32)),oC 6 33] [6]) (.ret))))
def rs141 : List RV := [.t 6]
theorem chk141 : chkFn Tryz.prog Tryz.f141 3 pc141 rs141 = true := by kernel_rfl
theorem rule141 : Rl 141 3 pc141 rs141 := rlM Tryz.func141 chk141

/-- internal/stringslite.CutPrefix -/
def pc143 : PC := .seq (.reg [ oU 4 (.cp (.k (.str []))),oU 5 (.cp (.k (.bool false)))] [0,1]) (.seq (.seq (.reg [ oC 6 0,oC 7 1,oU 8 (.call 168 [.v 6,.v 7]),oU 9 (.not (.v 8))] [0,1,9]) (.cnd (.v 9) (.seq (.reg [ oC 10 0,oC 4 10,oU 5 (.cp (.k (.bool false)))] [4,5]) (.ret)) (.skip))) (.seq (.reg [ oC 11 0,oC 12 1,oU 13 (.lenS (.v 12)),oU 14 (.slS (.v 11) (some (.v 13)) none),oC 4 14,oU 5 (.cp (.k (.bool true)))] [4,5]) (.ret)))
def rs143 : List RV := [.t 4, .t 5]
theorem chk143 : chkFn Tryz.prog Tryz.f143 2 pc143 rs143 = true := by kernel_rfl
theorem rule143 : Rl 143 2 pc143 rs143 := rlM Tryz.func143 chk143

/-- strings.HasPrefix -/
def pc144 : PC := .seq (.reg [ oU 4 (.cp (.k (.bool false)))] [0,1]) (.seq (.reg [ oC 5 0,oC 6 1,oU 7 (.call 168 [.v 5,.v 6]),oC 4 7] [4]) (.ret))
def rs144 : List RV := [.t 4]
theorem chk144 : chkFn Tryz.prog Tryz.f144 2 pc144 rs144 = true := by kernel_rfl
theorem rule144 : Rl 144 2 pc144 rs144 := rlM Tryz.func144 chk144

/-- internal/stringslite.TrimPrefix -/
def pc145 : PC := .seq (.reg [ oU 4 (.cp (.k (.str [])))] [0,1]) (.seq (.seq (.reg [ oC 5 0,oC 6 1,oU 7 (.call 168 [.v 5,.v 6])] [0,1,7]) (.cnd (.v 7) (.seq (.reg [ oC 8 0,oC 9 1,oU 10 (.lenS (.v 9)),oU 11 (.slS (.v 8) (some (.v 10)) none),oC 4 11] [4]) (.ret)) (.skip))) (.seq (.reg [ oC 12 0,oC 4 12] [4]) (.ret)))
def rs145 : List RV := [.t 4]
theorem chk145 : chkFn Tryz.prog Tryz.f145 2 pc145 rs145 = true := by kernel_rfl
theorem rule145 : Rl 145 2 pc145 rs145 := rlM Tryz.func145 chk145

/-- klippe/integer.trim -/
def pc148 : PC := .seq (.reg [ oU 2 (.nil 123)] [0]) (.seq (.blk 0 (.loop (.seq (.seq (.reg [ oC 3 0,oU 4 (.len (.v 3)),oU 5 (.ci .gtr (.v 4) (.k (.int .i64 0))),oC 6 5,⟨some 7,.cp (.v 0),(some (6,true))⟩,⟨some 8,.cp (.v 0),(some (6,true))⟩,⟨some 9,.len (.v 8),(some (6,true))⟩,⟨some 10,.ari .sub .i64 (.v 9) (.k (.int .i64 1)),(some (6,true))⟩,⟨some 11,.ia 1 (.v 7) (.v 10),(some (6,true))⟩,⟨some 12,.ld false 1 (.v 11),(some (6,true))⟩,⟨some 13,.ci .eql (.v 12) (.k (.int .u64 0)),(some (6,true))⟩,oU 14 (.pick (.v 6) (.v 13) (.k (.bool false)))] [0,14]) (.cnd (.v 14) (.skip) (.exit 0))) (.blk 1 (.reg [ oC 15 0,oC 16 0,oU 17 (.len (.v 16)),oU 18 (.ari .sub .i64 (.v 17) (.k (.int .i64 1))),oU 19 (.slc 1 (.v 15) none (some (.v 18))),oC 0 19] [0]))))) (.seq (.reg [ oC 20 0,oC 2 20] [2]) (.ret)))
def rs148 : List RV := [.t 2]
theorem chk148 : chkFn Tryz.prog Tryz.f148 1 pc148 rs148 = true := by kernel_rfl
theorem rule148 : Rl 148 1 pc148 rs148 := rlM Tryz.func148 chk148

/-- klippe/integer.order -/
def pc149 : PC := .seq (.reg [ oU 4 (.cp (.k (.int .i64 0)))] [0,1]) (.seq (.seq (.reg [ oC 6 0,oU 7 (.len (.v 6)),oC 8 1,oU 9 (.len (.v 8)),oU 10 (.ci .neq (.v 7) (.v 9))] [0,1,10]) (.cnd (.v 10) (.seq (.seq (.reg [ oC 11 0,oU 12 (.len (.v 11)),oC 13 1,oU 14 (.len (.v 13)),oU 15 (.ci .lss (.v 12) (.v 14))] [15]) (.cnd (.v 15) (.seq (.reg [ oU 4 (.cp (.k (.int .i64 (-1))))] [4]) (.ret)) (.skip))) (.seq (.reg [ oU 4 (.cp (.k (.int .i64 1)))] [4]) (.ret))) (.skip))) (.seq (.seq (.reg [ oC 16 0,oU 17 (.len (.v 16)),oU 18 (.ari .sub .i64 (.v 17) (.k (.int .i64 1))),oC 5 18] [0,1,5]) (.blk 0 (.loop (.seq (.seq (.reg [ oC 19 5,oU 20 (.ci .geq (.v 19) (.k (.int .i64 0)))] [0,1,5,20]) (.cnd (.v 20) (.skip) (.exit 0))) (.seq (.blk 1 (.seq (.reg [ oC 23 0,oC 24 5,oU 25 (.ia 1 (.v 23) (.v 24)),oU 26 (.ld false 1 (.v 25)),oC 27 1,oC 28 5,oU 29 (.ia 1 (.v 27) (.v 28)),oU 30 (.ld false 1 (.v 29)),oU 31 (.ci .neq (.v 26) (.v 30))] [0,1,5,31]) (.cnd (.v 31) (.seq (.seq (.reg [ oC 32 0,oC 33 5,oU 34 (.ia 1 (.v 32) (.v 33)),oU 35 (.ld false 1 (.v 34)),oC 36 1,oC 37 5,oU 38 (.ia 1 (.v 36) (.v 37)),oU 39 (.ld false 1 (.v 38)),oU 40 (.ci .lss (.v 35) (.v 39))] [40]) (.cnd (.v 40) (.seq (.reg [ oU 4 (.cp (.k (.int .i64 (-1))))] [4]) (.ret)) (.skip))) (.seq (.reg [ oU 4 (.cp (.k (.int .i64 1)))] [4]) (.ret))) (.skip)))) (.reg [ oC 21 5,oU 22 (.ari .sub .i64 (.v 21) (.k (.int .i64 1))),oC 5 22] [0,1,5])))))) (.seq (.reg [ oU 4 (.cp (.k (.int .i64 0)))] [4]) (.ret))))
def rs149 : List RV := [.t 4]
theorem chk149 : chkFn Tryz.prog Tryz.f149 2 pc149 rs149 = true := by kernel_rfl
theorem rule149 : Rl 149 2 pc149 rs149 := rlM Tryz.func149 chk149

/-- klippe/integer.small -/
def pc151 : PC := .seq (.reg [ oU 4 (.nil 123)] [0,1]) (.seq (.reg [ oC 5 0,oC 6 1,oU 7 (.bldS 123 [.int .u64 0] 1 [(0,1,.v 6)]),oU 8 (.call 148 [.v 7]),oU 9 (.call 124 [.v 5,.v 8]),oU 4 (.tk 9)] [4]) (.ret))
def rs151 : List RV := [.t 4]
theorem chk151 : chkFn Tryz.prog Tryz.f151 2 pc151 rs151 = true := by kernel_rfl
theorem rule151 : Rl 151 2 pc151 rs151 := rlM Tryz.func151 chk151

/-- klippe/integer.minus -/
def pc152 : PC := .seq (.reg [ oU 4 (.nil 123)] [0,1]) (.seq (.reg [ oC 10 0,oU 11 (.len (.v 10)),oU 12 (.mkS 123 [.int .u64 0] 8 (.k (.int .i64 0)) (.v 11)),oU 5 (.tk 12)] [0,1,5]) (.seq (.reg [ oU 6 (.cp (.k (.int .u64 0)))] [0,1,5,6]) (.seq (.seq (.reg [ oC 13 0,oU 14 (.len (.v 13)),oU 15 (.cp (.k (.int .i64 0)))] [1,5,6,13,14,15]) (.blk 0 (.loop (.seq (.reg [ oU 16 (.ci .lss (.v 15) (.v 14))] [1,5,6,13,14,15,16]) (.seq (.cnd (.v 16) (.skip) (.exit 0)) (.seq (.blk 1 (.seq (.reg [ oC 17 15,oU 18 (.ia 1 (.v 13) (.v 15)),oU 19 (.ld false 1 (.v 18)),oC 7 17,oC 8 19] [1,5,6,7,8,13,14,15]) (.seq (.reg [ oC 20 6,oC 9 20] [1,5,7,8,9,13,14,15]) (.seq (.seq (.reg [ oC 21 7,oC 22 1,oU 23 (.len (.v 22)),oU 24 (.ci .lss (.v 21) (.v 23))] [1,5,7,8,9,13,14,15,24]) (.cnd (.v 24) (.reg [ oC 25 9,oC 26 1,oC 27 7,oU 28 (.ia 1 (.v 26) (.v 27)),oU 29 (.ld false 1 (.v 28)),oU 30 (.ari .add .u64 (.v 25) (.v 29)),oC 9 30] [1,5,8,9,13,14,15]) (.skip))) (.seq (.reg [ oU 6 (.cp (.k (.int .u64 0)))] [1,5,6,8,9,13,14,15]) (.seq (.seq (.reg [ oC 31 8,oC 32 9,oU 33 (.ci .lss (.v 31) (.v 32))] [1,5,6,8,9,13,14,15,33]) (.cnd (.v 33) (.reg [ oC 34 8,oU 35 (.ari .add .u64 (.v 34) (.k (.int .u64 1000000000))),oC 8 35,oU 6 (.cp (.k (.int .u64 1)))] [1,5,6,8,9,13,14,15]) (.skip))) (.reg [ oU 36 (.tk 5),oC 37 8,oC 38 9,oU 39 (.ari .sub .u64 (.v 37) (.v 38)),oU 40 (.bldS 123 [.int .u64 0] 1 [(0,1,.v 39)]),oU 41 (.app 123 1 8 (.v 36) (.v 40)),oU 5 (.tk 41)] [1,5,6,13,14,15]))))))) (.reg [ oU 42 (.ari .add .i64 (.v 15) (.k (.int .i64 1))),oC 15 42] [1,5,6,13,14,15]))))))) (.seq (.reg [ oU 43 (.tk 5),oU 44 (.call 148 [.v 43]),oU 4 (.tk 44)] [4]) (.ret)))))
def rs152 : List RV := [.t 4]
theorem chk152 : chkFn Tryz.prog Tryz.f152 2 pc152 rs152 = true := by kernel_rfl
theorem rule152 : Rl 152 2 pc152 rs152 := rlM Tryz.func152 chk152

/-- strconv.FormatUint -/
def pc154 : PC := .seq (.reg [ oU 4 (.cp (.k (.str [])))] [0,1]) (.seq (.reg [ oC 5 0,oC 6 1,oU 7 (.call 173 [.v 5,.v 6]),oC 4 7] [4]) (.ret))
def rs154 : List RV := [.t 4]
theorem chk154 : chkFn Tryz.prog Tryz.f154 2 pc154 rs154 = true := by kernel_rfl
theorem rule154 : Rl 154 2 pc154 rs154 := rlM Tryz.func154 chk154

/-- klippe/integer.plus -/
def pc157 : PC := .seq (.reg [ oU 4 (.nil 123)] [0,1]) (.seq (.seq (.reg [ oC 9 0,oU 10 (.len (.v 9)),oC 11 1,oU 12 (.len (.v 11)),oU 13 (.ci .lss (.v 10) (.v 12))] [0,1,13]) (.cnd (.v 13) (.reg [ oC 14 1,oC 15 0,oC 0 14,oC 1 15] [0,1]) (.skip))) (.seq (.reg [ oC 16 0,oU 17 (.len (.v 16)),oU 18 (.ari .add .i64 (.v 17) (.k (.int .i64 1))),oU 19 (.mkS 123 [.int .u64 0] 8 (.k (.int .i64 0)) (.v 18)),oU 5 (.tk 19)] [0,1,5]) (.seq (.reg [ oU 6 (.cp (.k (.int .u64 0)))] [0,1,5,6]) (.seq (.seq (.reg [ oC 20 0,oU 21 (.len (.v 20)),oU 22 (.cp (.k (.int .i64 0)))] [1,5,6,20,21,22]) (.blk 0 (.loop (.seq (.reg [ oU 23 (.ci .lss (.v 22) (.v 21))] [1,5,6,20,21,22,23]) (.seq (.cnd (.v 23) (.skip) (.exit 0)) (.seq (.blk 1 (.seq (.reg [ oC 24 22,oU 25 (.ia 1 (.v 20) (.v 22)),oU 26 (.ld false 1 (.v 25)),oC 7 24,oC 8 26] [1,5,6,7,8,20,21,22]) (.seq (.reg [ oC 27 6,oC 28 8,oU 29 (.ari .add .u64 (.v 27) (.v 28)),oC 6 29] [1,5,6,7,20,21,22]) (.seq (.seq (.reg [ oC 30 7,oC 31 1,oU 32 (.len (.v 31)),oU 33 (.ci .lss (.v 30) (.v 32))] [1,5,6,7,20,21,22,33]) (.cnd (.v 33) (.reg [ oC 34 6,oC 35 1,oC 36 7,oU 37 (.ia 1 (.v 35) (.v 36)),oU 38 (.ld false 1 (.v 37)),oU 39 (.ari .add .u64 (.v 34) (.v 38)),oC 6 39] [1,5,6,20,21,22]) (.skip))) (.seq (.reg [ oU 40 (.tk 5),oC 41 6,oU 42 (.ari .rem .u64 (.v 41) (.k (.int .u64 1000000000))),oU 43 (.bldS 123 [.int .u64 0] 1 [(0,1,.v 42)]),oU 44 (.app 123 1 8 (.v 40) (.v 43)),oU 5 (.tk 44)] [1,5,6,20,21,22]) (.reg [ oC 45 6,oU 46 (.ari .quo .u64 (.v 45) (.k (.int .u64 1000000000))),oC 6 46] [1,5,6,20,21,22])))))) (.reg [ oU 47 (.ari .add .i64 (.v 22) (.k (.int .i64 1))),oC 22 47] [1,5,6,20,21,22]))))))) (.seq (.reg [ oU 48 (.tk 5),oC 49 6,oU 50 (.bldS 123 [.int .u64 0] 1 [(0,1,.v 49)]),oU 51 (.app 123 1 8 (.v 48) (.v 50)),oU 52 (.call 148 [.v 51]),oU 4 (.tk 52)] [4]) (.ret))))))
def rs157 : List RV := [.t 4]
theorem chk157 : chkFn Tryz.prog Tryz.f157 2 pc157 rs157 = true := by kernel_rfl
theorem rule157 : Rl 157 2 pc157 rs157 := rlM Tryz.func157 chk157

/-- klippe/klipperef01.less -/
def pc158 : PC := .seq (.reg [ oU 4 (.cp (.k (.bool false)))] [0,1]) (.seq (.seq (.reg [ oC 6 0,oU 7 (.len (.v 6)),oC 8 1,oU 9 (.len (.v 8)),oU 10 (.ci .neq (.v 7) (.v 9))] [0,1,10]) (.cnd (.v 10) (.seq (.reg [ oC 11 0,oU 12 (.len (.v 11)),oC 13 1,oU 14 (.len (.v 13)),oU 15 (.ci .lss (.v 12) (.v 14)),oC 4 15] [4]) (.ret)) (.skip))) (.seq (.seq (.reg [ oC 16 0,oU 17 (.len (.v 16)),oU 18 (.ari .sub .i64 (.v 17) (.k (.int .i64 1))),oC 5 18] [0,1,5]) (.blk 0 (.loop (.seq (.seq (.reg [ oC 19 5,oU 20 (.ci .geq (.v 19) (.k (.int .i64 0)))] [0,1,5,20]) (.cnd (.v 20) (.skip) (.exit 0))) (.seq (.blk 1 (.seq (.reg [ oC 23 0,oC 24 5,oU 25 (.ia 1 (.v 23) (.v 24)),oU 26 (.ld false 1 (.v 25)),oC 27 1,oC 28 5,oU 29 (.ia 1 (.v 27) (.v 28)),oU 30 (.ld false 1 (.v 29)),oU 31 (.ci .neq (.v 26) (.v 30))] [0,1,5,31]) (.cnd (.v 31) (.seq (.reg [ oC 32 0,oC 33 5,oU 34 (.ia 1 (.v 32) (.v 33)),oU 35 (.ld false 1 (.v 34)),oC 36 1,oC 37 5,oU 38 (.ia 1 (.v 36) (.v 37)),oU 39 (.ld false 1 (.v 38)),oU 40 (.ci .lss (.v 35) (.v 39)),oC 4 40] [4]) (.ret)) (.skip)))) (.reg [ oC 21 5,oU 22 (.ari .sub .i64 (.v 21) (.k (.int .i64 1))),oC 5 22] [0,1,5])))))) (.seq (.reg [ oU 4 (.cp (.k (.bool false)))] [4]) (.ret))))
def rs158 : List RV := [.t 4]
theorem chk158 : chkFn Tryz.prog Tryz.f158 2 pc158 rs158 = true := by kernel_rfl
theorem rule158 : Rl 158 2 pc158 rs158 := rlM Tryz.func158 chk158

/-- klippe/klipperef01.cut -/
def pc159 : PC := .seq (.reg [ oU 2 (.nil 3)] [0]) (.seq (.blk 0 (.loop (.seq (.seq (.reg [ oC 3 0,oU 4 (.len (.v 3)),oU 5 (.ci .gtr (.v 4) (.k (.int .i64 0))),oC 6 5,⟨some 7,.cp (.v 0),(some (6,true))⟩,⟨some 8,.cp (.v 0),(some (6,true))⟩,⟨some 9,.len (.v 8),(some (6,true))⟩,⟨some 10,.ari .sub .i64 (.v 9) (.k (.int .i64 1)),(some (6,true))⟩,⟨some 11,.ia 1 (.v 7) (.v 10),(some (6,true))⟩,⟨some 12,.ld false 1 (.v 11),(some (6,true))⟩,⟨some 13,.ci .eql (.v 12) (.k (.int .i64 0)),(some (6,true))⟩,oU 14 (.pick (.v 6) (.v 13) (.k (.bool false)))] [0,14]) (.cnd (.v 14) (.skip) (.exit 0))) (.blk 1 (.reg [ oC 15 0,oC 16 0,oU 17 (.len (.v 16)),oU 18 (.ari .sub .i64 (.v 17) (.k (.int .i64 1))),oU 19 (.slc 1 (.v 15) none (some (.v 18))),oC 0 19] [0]))))) (.seq (.reg [ oC 20 0,oC 2 20] [2]) (.ret)))
def rs159 : List RV := [.t 2]
theorem chk159 : chkFn Tryz.prog Tryz.f159 1 pc159 rs159 = true := by kernel_rfl
theorem rule159 : Rl 159 1 pc159 rs159 := rlM Tryz.func159 chk159

/-- klippe/klipperef01.carry -/
def pc160 : PC := .seq (.reg [ oU 2 (.nil 3)] [0]) (.seq (.reg [ oU 3 (.nil 3)] [0,3]) (.seq (.reg [ oU 4 (.cp (.k (.int .i64 0)))] [0,3,4]) (.seq (.seq (.reg [ oU 5 (.cp (.k (.int .i64 0)))] [0,3,4,5]) (.blk 0 (.loop (.seq (.seq (.reg [ oC 7 5,oC 8 0,oU 9 (.len (.v 8)),oU 10 (.ci .lss (.v 7) (.v 9)),oC 11 10,⟨some 12,.cp (.v 4),(some (11,false))⟩,⟨some 13,.ci .neq (.v 12) (.k (.int .i64 0)),(some (11,false))⟩,oU 14 (.pick (.v 11) (.k (.bool true)) (.v 13))] [0,3,4,5,14]) (.cnd (.v 14) (.skip) (.exit 0))) (.seq (.blk 1 (.seq (.seq (.reg [ oC 17 5,oC 18 0,oU 19 (.len (.v 18)),oU 20 (.ci .lss (.v 17) (.v 19))] [0,3,4,5,20]) (.cnd (.v 20) (.reg [ oC 21 4,oC 22 0,oC 23 5,oU 24 (.ia 1 (.v 22) (.v 23)),oU 25 (.ld false 1 (.v 24)),oU 26 (.ari .add .i64 (.v 21) (.v 25)),oC 4 26] [0,3,4,5]) (.skip))) (.seq (.reg [ oC 27 4,oU 28 (.ari .rem .i64 (.v 27) (.k (.int .i64 10000))),oC 6 28] [0,3,4,5,6]) (.seq (.seq (.reg [ oC 29 6,oU 30 (.ci .lss (.v 29) (.k (.int .i64 0)))] [0,3,4,5,6,30]) (.cnd (.v 30) (.reg [ oC 31 6,oU 32 (.ari .add .i64 (.v 31) (.k (.int .i64 10000))),oC 6 32] [0,3,4,5,6]) (.skip))) (.seq (.reg [ oU 33 (.tk 3),oC 34 6,oU 35 (.bldS 3 [.int .i64 0] 1 [(0,1,.v 34)]),oU 36 (.app 3 1 8 (.v 33) (.v 35)),oU 3 (.tk 36)] [0,3,4,5,6]) (.reg [ oC 37 4,oC 38 6,oU 39 (.ari .sub .i64 (.v 37) (.v 38)),oU 40 (.ari .quo .i64 (.v 39) (.k (.int .i64 10000))),oC 4 40] [0,3,4,5])))))) (.reg [ oC 15 5,oU 16 (.ari .add .i64 (.v 15) (.k (.int .i64 1))),oC 5 16] [0,3,4,5])))))) (.seq (.reg [ oU 41 (.tk 3),oU 42 (.call 159 [.v 41]),oU 2 (.tk 42)] [2]) (.ret)))))
def rs160 : List RV := [.t 2]
theorem chk160 : chkFn Tryz.prog Tryz.f160 1 pc160 rs160 = true := by kernel_rfl
theorem rule160 : Rl 160 1 pc160 rs160 := rlM Tryz.func160 chk160

/-- klippe/klipperef01.give -/
def pc161 : PC := .seq (.reg [ oU 2 (.cp (.k (.str [])))] [0]) (.seq (.seq (.reg [ oC 6 0,oU 7 (.len (.v 6)),oU 8 (.ci .eql (.v 7) (.k (.int .i64 0)))] [0,8]) (.cnd (.v 8) (.seq (.reg [ oU 2 (.cp (.k (.str [48])))] [2]) (.ret)) (.skip))) (.seq (.reg [ oC 9 0,oC 10 0,oU 11 (.len (.v 10)),oU 12 (.ari .sub .i64 (.v 11) (.k (.int .i64 1))),oU 13 (.ia 1 (.v 9) (.v 12)),oU 14 (.ld false 1 (.v 13)),oU 15 (.call 106 [.v 14]),oC 3 15] [0,3]) (.seq (.seq (.reg [ oC 16 0,oU 17 (.len (.v 16)),oU 18 (.ari .sub .i64 (.v 17) (.k (.int .i64 2))),oC 4 18] [0,3,4]) (.blk 0 (.loop (.seq (.seq (.reg [ oC 19 4,oU 20 (.ci .geq (.v 19) (.k (.int .i64 0)))] [0,3,4,20]) (.cnd (.v 20) (.skip) (.exit 0))) (.seq (.blk 1 (.seq (.reg [ oC 23 0,oC 24 4,oU 25 (.ia 1 (.v 23) (.v 24)),oU 26 (.ld false 1 (.v 25)),oU 27 (.ari .add .i64 (.k (.int .i64 10000)) (.v 26)),oU 28 (.call 106 [.v 27]),oC 5 28] [0,3,4,5]) (.reg [ oC 29 3,oC 30 5,oU 31 (.slS (.v 30) (some (.k (.int .i64 1))) none),oU 32 (.cat (.v 29) (.v 31)),oC 3 32] [0,3,4]))) (.reg [ oC 21 4,oU 22 (.ari .sub .i64 (.v 21) (.k (.int .i64 1))),oC 4 22] [0,3,4])))))) (.seq (.reg [ oC 33 3,oC 2 33] [2]) (.ret)))))
def rs161 : List RV := [.t 2]
theorem chk161 : chkFn Tryz.prog Tryz.f161 1 pc161 rs161 = true := by kernel_rfl
theorem rule161 : Rl 161 1 pc161 rs161 := rlM Tryz.func161 chk161

/-- internal/stringslite.HasPrefix -/
def pc168 : PC := .seq (.reg [ oU 4 (.cp (.k (.bool false)))] [0,1]) (.seq (.reg [ oC 5 0,oU 6 (.lenS (.v 5)),oC 7 1,oU 8 (.lenS (.v 7)),oU 9 (.ci .geq (.v 6) (.v 8)),oC 10 9,⟨some 11,.cp (.v 0),(some (10,true))⟩,⟨some 12,.cp (.v 1),(some (10,true))⟩,⟨some 13,.lenS (.v 12),(some (10,true))⟩,⟨some 14,.slS (.v 11) none (some (.v 13)),(some (10,true))⟩,⟨some 15,.cp (.v 1),(some (10,true))⟩,⟨some 16,.sc .eql (.v 14) (.v 15),(some (10,true))⟩,oU 17 (.pick (.v 10) (.v 16) (.k (.bool false))),oC 4 17] [4]) (.ret))
def rs168 : List RV := [.t 4]
theorem chk168 : chkFn Tryz.prog Tryz.f168 2 pc168 rs168 = true := by kernel_rfl
theorem rule168 : Rl 168 2 pc168 rs168 := rlM Tryz.func168 chk168

def tabL : List (Nat × PC × List RV × Nat) := [(6, pc6, rs6, 3), (10, pc10, rs10, 0), (12, pc12, rs12, 2), (18, pc18, rs18, 1), (20, pc20, rs20, 3), (22, pc22, rs22, 1), (27, pc27, rs27, 2), (28, pc28, rs28, 2), (29, pc29, rs29, 1), (37, pc37, rs37, 2), (38, pc38, rs38, 2), (40, pc40, rs40, 2), (41, pc41, rs41, 1), (42, pc42, rs42, 2), (46, pc46, rs46, 1), (47, pc47, rs47, 1), (48, pc48, rs48, 1), (51, pc51, rs51, 1), (52, pc52, rs52, 1), (53, pc53, rs53, 2), (54, pc54, rs54, 2), (55, pc55, rs55, 2), (56, pc56, rs56, 1), (58, pc58, rs58, 2), (60, pc60, rs60, 2), (63, pc63, rs63, 2), (64, pc64, rs64, 2), (65, pc65, rs65, 1), (67, pc67, rs67, 1), (72, pc72, rs72, 2), (73, pc73, rs73, 1), (74, pc74, rs74, 3), (78, pc78, rs78, 1), (79, pc79, rs79, 2), (81, pc81, rs81, 2), (82, pc82, rs82, 2), (83, pc83, rs83, 1), (84, pc84, rs84, 2), (85, pc85, rs85, 2), (86, pc86, rs86, 1), (87, pc87, rs87, 1), (88, pc88, rs88, 2), (89, pc89, rs89, 2), (90, pc90, rs90, 2), (91, pc91, rs91, 2), (92, pc92, rs92, 1), (95, pc95, rs95, 1), (97, pc97, rs97, 1), (98, pc98, rs98, 2), (101, pc101, rs101, 1), (102, pc102, rs102, 2), (103, pc103, rs103, 2), (104, pc104, rs104, 2), (109, pc109, rs109, 1), (110, pc110, rs110, 2), (111, pc111, rs111, 4), (113, pc113, rs113, 1), (114, pc114, rs114, 2), (115, pc115, rs115, 2), (116, pc116, rs116, 1), (117, pc117, rs117, 2), (119, pc119, rs119, 2), (120, pc120, rs120, 1), (121, pc121, rs121, 1), (124, pc124, rs124, 2), (125, pc125, rs125, 1), (126, pc126, rs126, 2), (127, pc127, rs127, 2), (128, pc128, rs128, 2), (131, pc131, rs131, 1), (132, pc132, rs132, 2), (133, pc133, rs133, 1), (134, pc134, rs134, 4), (135, pc135, rs135, 2), (136, pc136, rs136, 1), (137, pc137, rs137, 2), (140, pc140, rs140, 2), (141, pc141, rs141, 3), (143, pc143, rs143, 2), (144, pc144, rs144, 2), (145, pc145, rs145, 2), (148, pc148, rs148, 1), (149, pc149, rs149, 2), (151, pc151, rs151, 2), (152, pc152, rs152, 2), (154, pc154, rs154, 2), (157, pc157, rs157, 2), (158, pc158, rs158, 2), (159, pc159, rs159, 1), (160, pc160, rs160, 1), (161, pc161, rs161, 1), (168, pc168, rs168, 2)]
def tabFn (f : Nat) : Option (PC × List RV × Nat) := (tabL.find? (fun e => e.1 == f)).map (·.2)
theorem tabL_ok : ∀ e ∈ tabL, ∃ fn, Tryz.prog.funcs[e.1]? = some fn ∧ chkFn Tryz.prog fn e.2.2.2 e.2.1 e.2.2.1 = true := by
  intro e he
  simp only [tabL, List.mem_cons, List.not_mem_nil, or_false] at he
  rcases he with rfl | rfl | rfl | rfl | rfl | rfl | rfl | rfl | rfl | rfl | rfl | rfl | rfl | rfl | rfl | rfl | rfl | rfl | rfl | rfl | rfl | rfl | rfl | rfl | rfl | rfl | rfl | rfl | rfl | rfl | rfl | rfl | rfl | rfl | rfl | rfl | rfl | rfl | rfl | rfl | rfl | rfl | rfl | rfl | rfl | rfl | rfl | rfl | rfl | rfl | rfl | rfl | rfl | rfl | rfl | rfl | rfl | rfl | rfl | rfl | rfl | rfl | rfl | rfl | rfl | rfl | rfl | rfl | rfl | rfl | rfl | rfl | rfl | rfl | rfl | rfl | rfl | rfl | rfl | rfl | rfl | rfl | rfl | rfl | rfl | rfl | rfl | rfl | rfl | rfl | rfl | rfl
  · exact ⟨_, Tryz.func6, chk6⟩
  · exact ⟨_, Tryz.func10, chk10⟩
  · exact ⟨_, Tryz.func12, chk12⟩
  · exact ⟨_, Tryz.func18, chk18⟩
  · exact ⟨_, Tryz.func20, chk20⟩
  · exact ⟨_, Tryz.func22, chk22⟩
  · exact ⟨_, Tryz.func27, chk27⟩
  · exact ⟨_, Tryz.func28, chk28⟩
  · exact ⟨_, Tryz.func29, chk29⟩
  · exact ⟨_, Tryz.func37, chk37⟩
  · exact ⟨_, Tryz.func38, chk38⟩
  · exact ⟨_, Tryz.func40, chk40⟩
  · exact ⟨_, Tryz.func41, chk41⟩
  · exact ⟨_, Tryz.func42, chk42⟩
  · exact ⟨_, Tryz.func46, chk46⟩
  · exact ⟨_, Tryz.func47, chk47⟩
  · exact ⟨_, Tryz.func48, chk48⟩
  · exact ⟨_, Tryz.func51, chk51⟩
  · exact ⟨_, Tryz.func52, chk52⟩
  · exact ⟨_, Tryz.func53, chk53⟩
  · exact ⟨_, Tryz.func54, chk54⟩
  · exact ⟨_, Tryz.func55, chk55⟩
  · exact ⟨_, Tryz.func56, chk56⟩
  · exact ⟨_, Tryz.func58, chk58⟩
  · exact ⟨_, Tryz.func60, chk60⟩
  · exact ⟨_, Tryz.func63, chk63⟩
  · exact ⟨_, Tryz.func64, chk64⟩
  · exact ⟨_, Tryz.func65, chk65⟩
  · exact ⟨_, Tryz.func67, chk67⟩
  · exact ⟨_, Tryz.func72, chk72⟩
  · exact ⟨_, Tryz.func73, chk73⟩
  · exact ⟨_, Tryz.func74, chk74⟩
  · exact ⟨_, Tryz.func78, chk78⟩
  · exact ⟨_, Tryz.func79, chk79⟩
  · exact ⟨_, Tryz.func81, chk81⟩
  · exact ⟨_, Tryz.func82, chk82⟩
  · exact ⟨_, Tryz.func83, chk83⟩
  · exact ⟨_, Tryz.func84, chk84⟩
  · exact ⟨_, Tryz.func85, chk85⟩
  · exact ⟨_, Tryz.func86, chk86⟩
  · exact ⟨_, Tryz.func87, chk87⟩
  · exact ⟨_, Tryz.func88, chk88⟩
  · exact ⟨_, Tryz.func89, chk89⟩
  · exact ⟨_, Tryz.func90, chk90⟩
  · exact ⟨_, Tryz.func91, chk91⟩
  · exact ⟨_, Tryz.func92, chk92⟩
  · exact ⟨_, Tryz.func95, chk95⟩
  · exact ⟨_, Tryz.func97, chk97⟩
  · exact ⟨_, Tryz.func98, chk98⟩
  · exact ⟨_, Tryz.func101, chk101⟩
  · exact ⟨_, Tryz.func102, chk102⟩
  · exact ⟨_, Tryz.func103, chk103⟩
  · exact ⟨_, Tryz.func104, chk104⟩
  · exact ⟨_, Tryz.func109, chk109⟩
  · exact ⟨_, Tryz.func110, chk110⟩
  · exact ⟨_, Tryz.func111, chk111⟩
  · exact ⟨_, Tryz.func113, chk113⟩
  · exact ⟨_, Tryz.func114, chk114⟩
  · exact ⟨_, Tryz.func115, chk115⟩
  · exact ⟨_, Tryz.func116, chk116⟩
  · exact ⟨_, Tryz.func117, chk117⟩
  · exact ⟨_, Tryz.func119, chk119⟩
  · exact ⟨_, Tryz.func120, chk120⟩
  · exact ⟨_, Tryz.func121, chk121⟩
  · exact ⟨_, Tryz.func124, chk124⟩
  · exact ⟨_, Tryz.func125, chk125⟩
  · exact ⟨_, Tryz.func126, chk126⟩
  · exact ⟨_, Tryz.func127, chk127⟩
  · exact ⟨_, Tryz.func128, chk128⟩
  · exact ⟨_, Tryz.func131, chk131⟩
  · exact ⟨_, Tryz.func132, chk132⟩
  · exact ⟨_, Tryz.func133, chk133⟩
  · exact ⟨_, Tryz.func134, chk134⟩
  · exact ⟨_, Tryz.func135, chk135⟩
  · exact ⟨_, Tryz.func136, chk136⟩
  · exact ⟨_, Tryz.func137, chk137⟩
  · exact ⟨_, Tryz.func140, chk140⟩
  · exact ⟨_, Tryz.func141, chk141⟩
  · exact ⟨_, Tryz.func143, chk143⟩
  · exact ⟨_, Tryz.func144, chk144⟩
  · exact ⟨_, Tryz.func145, chk145⟩
  · exact ⟨_, Tryz.func148, chk148⟩
  · exact ⟨_, Tryz.func149, chk149⟩
  · exact ⟨_, Tryz.func151, chk151⟩
  · exact ⟨_, Tryz.func152, chk152⟩
  · exact ⟨_, Tryz.func154, chk154⟩
  · exact ⟨_, Tryz.func157, chk157⟩
  · exact ⟨_, Tryz.func158, chk158⟩
  · exact ⟨_, Tryz.func159, chk159⟩
  · exact ⟨_, Tryz.func160, chk160⟩
  · exact ⟨_, Tryz.func161, chk161⟩
  · exact ⟨_, Tryz.func168, chk168⟩
theorem tabFn_ok (f : Nat) (pc : PC) (rs : List RV) (np : Nat) (h : tabFn f = some (pc, rs, np)) : ∃ fn, Tryz.prog.funcs[f]? = some fn ∧ chkFn Tryz.prog fn np pc rs = true := by
  unfold tabFn at h
  rw [Option.map_eq_some_iff] at h
  obtain ⟨e, h1, h2⟩ := h
  have h3 := List.find?_some h1
  simp only [beq_iff_eq] at h3
  obtain ⟨fn, h4, h5⟩ := tabL_ok e (List.mem_of_find?_eq_some h1)
  rw [h2] at h5
  exact ⟨fn, by rw [← h3]; exact h4, h5⟩

end Go.Proofs
