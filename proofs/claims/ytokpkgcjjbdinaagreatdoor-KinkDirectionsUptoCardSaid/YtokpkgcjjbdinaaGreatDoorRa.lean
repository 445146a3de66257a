/- The pure readings of functions of this seat, printed by program (pcfile.py). Own work. -/
import Derived.Test.YtokpkgcjjbdinaaGreatDoorProg
import Derived.Test.YtokpkgcjjbdinaaGreatDoorPl
import Derived.KernelRfl
namespace Go.Proofs
open Go Go.Pi Go.RowKit
set_option maxRecDepth 100000
set_option linter.unusedVariables false
set_option linter.unusedSimpArgs false
def oU (t : Nat) (k : K) : PO := ⟨some t, k, none⟩
def oC (t v : Nat) : PO := ⟨some t, .cp (.v v), none⟩
abbrev Rl (k n : Nat) (pc : PC) (rs : List RV) : Prop := ∀ {L : World → Prop} (_ : ∀ w w', L w → Below w.heap.size w w' → L w') {ds : List D} {r : D} (_ : aliasOf r = none) (_ : ds.length = n) (_ : ds.all (fun d => (aliasOf d).isNone) = true) (_ : wC (Con Tryz.prog L) pc (retQ rs r) (initE 0 ds)), Con Tryz.prog L k ds r
theorem rlM {k n : Nat} {pc : PC} {rs : List RV} {fn : Func} (hf : Tryz.prog.funcs[k]? = some fn) (hc : chkFn Tryz.prog fn n pc rs = true) : Rl k n pc rs := fun hL _ _ hr0 hlen hp h => con_chk hL hf hc hr0 hlen hp (wC_sound h)

/-- klippe/klippelaw40.KinkDirections -/
def pc3 : PC := .seq (.reg [ oU 2 (.cp (.k (.bool false)))] [0]) (.seq (.seq (.reg [ oU 5 (.call 13 []),oU 6 (.not (.v 5)),oC 7 6,⟨some 8,.cp (.v 0),(some (7,false))⟩,⟨some 9,.lenS (.v 8),(some (7,false))⟩,⟨some 10,.ci .gtr (.v 9) (.k (.int .i64 40)),(some (7,false))⟩,oU 11 (.pick (.v 7) (.k (.bool true)) (.v 10))] [0,11]) (.cnd (.v 11) (.seq (.reg [ oU 12 (.call 13 []),oC 2 12] [2]) (.ret)) (.skip))) (.seq (.reg [ oC 14 0,oU 15 (.call 14 [.v 14]),oC 13 15,oU 16 (.ext 13 0),oU 17 (.ext 13 1),oU 3 (.alloc [.str [],.str []]),⟨none,.st 2 (.v 3) (.v 16),none⟩,oC 4 17] [0,3,4]) (.seq (.seq (.reg [ oC 18 0,oU 19 (.call 15 [.v 18])] [0,3,4,19]) (.cnd (.v 19) (.seq (.reg [ oU 20 (.ld true 2 (.v 3)),oU 21 (.bld [.str [],.str []] []),oU 22 (.eq false [2,2] (.v 20) (.v 21)),oC 23 22,⟨some 24,.cp (.v 4),(some (23,true))⟩,⟨some 25,.ci .eql (.v 24) (.k (.int .i64 2)),(some (23,true))⟩,oU 26 (.pick (.v 23) (.v 25) (.k (.bool false))),oC 2 26] [2]) (.ret)) (.skip))) (.seq (.reg [ oC 27 4,oU 28 (.ci .eql (.v 27) (.k (.int .i64 0))),oC 29 28,⟨some 30,.ld true 2 (.v 3),(some (29,true))⟩,⟨some 31,.cp (.v 0),(some (29,true))⟩,⟨some 32,.call 16 [.v 31],(some (29,true))⟩,⟨some 33,.eq false [2,2] (.v 30) (.v 32),(some (29,true))⟩,oU 34 (.pick (.v 29) (.v 33) (.k (.bool false))),oC 2 34] [2]) (.ret)))))
def rs3 : List RV := [.t 2]
theorem chk3 : chkFn Tryz.prog Tryz.f3 1 pc3 rs3 = true := by kernel_rfl
theorem rule3 : Rl 3 1 pc3 rs3 := rlM Tryz.func3 chk3

/-- klippe/klippelaw40.known -/
def pc13 : PC := .seq (.reg [ oU 0 (.cp (.k (.bool false)))] []) (.seq (.reg [ oU 14 (.call 53 []),oU 1 (.alloc [.str [],.str [],.sl 0 [],.sl 0 []]),⟨none,.st 4 (.v 1) (.v 14),none⟩] [1]) (.seq (.reg [ oU 16 (.call 14 [.k (.str [49,47,50])]),oC 15 16,oU 17 (.ext 15 0),oU 18 (.ext 15 1),oU 2 (.alloc [.str [],.str []]),⟨none,.st 2 (.v 2) (.v 17),none⟩,oC 3 18] [1,2,3]) (.seq (.reg [ oU 20 (.ld true 4 (.v 1)),oU 21 (.call 19 [.v 20]),oC 19 21,oU 22 (.ext 19 0),oU 23 (.ext 19 1),oC 4 22,oC 5 23] [1,2,3,4,5]) (.seq (.reg [ oU 25 (.ld true 4 (.v 1)),oU 26 (.call 20 [.v 25]),oC 24 26,oU 27 (.ext 24 0),oU 28 (.ext 24 1),oU 29 (.ext 24 2),oC 6 27,oC 7 28,oC 8 29] [1,2,3,4,5,6,7,8]) (.seq (.reg [ oU 31 (.ld true 4 (.v 1)),oU 32 (.call 26 [.v 31,.k (.str [48]),.k (.str [51])]),oC 30 32,oU 33 (.ext 30 0),oU 34 (.ext 30 1),oC 9 33,oC 10 34] [1,2,3,4,5,6,7,8,9,10]) (.seq (.reg [ oU 36 (.ld true 4 (.v 1)),oU 37 (.bld [.str [],.str []] [(0,1,.k (.str [51])),(1,1,.k (.str [49,55,47,51]))]),oU 38 (.call 24 [.v 36,.v 37]),oC 35 38,oU 39 (.ext 35 0),oU 40 (.ext 35 1),oU 41 (.ext 35 2),oU 11 (.alloc [.str [],.str []]),⟨none,.st 2 (.v 11) (.v 39),none⟩,oC 12 40,oC 13 41] [2,3,4,5,6,7,8,9,10,11,12,13]) (.seq (.reg [ oC 42 3,oU 43 (.ci .eql (.v 42) (.k (.int .i64 0))),oC 44 43,⟨some 45,.ld true 2 (.v 2),(some (44,true))⟩,⟨some 46,.bld [.str [],.str []] [(0,1,.k (.str [51,47,53])),(1,1,.k (.str [52,47,53]))],(some (44,true))⟩,⟨some 47,.eq false [2,2] (.v 45) (.v 46),(some (44,true))⟩,oU 48 (.pick (.v 44) (.v 47) (.k (.bool false))),oC 49 48,⟨some 50,.cp (.v 5),(some (49,true))⟩,⟨some 51,.ci .eql (.v 50) (.k (.int .i64 0)),(some (49,true))⟩,oU 52 (.pick (.v 49) (.v 51) (.k (.bool false))),oC 53 52,⟨some 54,.cp (.v 4),(some (53,true))⟩,⟨some 55,.len (.v 54),(some (53,true))⟩,⟨some 56,.ci .eql (.v 55) (.k (.int .i64 1)),(some (53,true))⟩,oU 57 (.pick (.v 53) (.v 56) (.k (.bool false))),oC 58 57,⟨some 59,.cp (.v 4),(some (58,true))⟩,⟨some 60,.ia 4 (.v 59) (.k (.int .i64 0)),(some (58,true))⟩,⟨some 61,.ld true 4 (.v 60),(some (58,true))⟩,⟨some 62,.call 44 [.k (.int .i64 3),.k (.int .i64 4)],(some (58,true))⟩,⟨some 63,.bld [.str [],.str []] [(0,1,.k (.str [48])),(1,1,.k (.str [53,47,51]))],(some (58,true))⟩,⟨some 64,.bld [.str [],.str [],.str [],.str []] [(0,2,.v 62),(2,2,.v 63)],(some (58,true))⟩,⟨some 65,.eq false [2,2,2,2] (.v 61) (.v 64),(some (58,true))⟩,oU 66 (.pick (.v 58) (.v 65) (.k (.bool false))),oC 67 66,⟨some 68,.cp (.v 8),(some (67,true))⟩,⟨some 69,.ci .eql (.v 68) (.k (.int .i64 0)),(some (67,true))⟩,oU 70 (.pick (.v 67) (.v 69) (.k (.bool false))),oC 71 70,⟨some 72,.cp (.v 6),(some (71,true))⟩,⟨some 73,.sc .eql (.v 72) (.k (.str [45,49,53,47,52])),(some (71,true))⟩,oU 74 (.pick (.v 71) (.v 73) (.k (.bool false))),oC 75 74,⟨some 76,.cp (.v 7),(some (75,true))⟩,⟨some 77,.sc .eql (.v 76) (.k (.str [])),(some (75,true))⟩,oU 78 (.pick (.v 75) (.v 77) (.k (.bool false))),oC 79 78,⟨some 80,.cp (.v 10),(some (79,true))⟩,⟨some 81,.ci .eql (.v 80) (.k (.int .i64 0)),(some (79,true))⟩,oU 82 (.pick (.v 79) (.v 81) (.k (.bool false))),oC 83 82,⟨some 84,.cp (.v 9),(some (83,true))⟩,⟨some 85,.sc .eql (.v 84) (.k (.str [52,50])),(some (83,true))⟩,oU 86 (.pick (.v 83) (.v 85) (.k (.bool false))),oC 87 86,⟨some 88,.cp (.v 13),(some (87,true))⟩,⟨some 89,.ci .eql (.v 88) (.k (.int .i64 0)),(some (87,true))⟩,oU 90 (.pick (.v 87) (.v 89) (.k (.bool false))),oC 91 90,⟨some 92,.cp (.v 12),(some (91,true))⟩,oU 93 (.pick (.v 91) (.v 92) (.k (.bool false))),oC 94 93,⟨some 95,.ld true 2 (.v 11),(some (94,true))⟩,⟨some 96,.bld [.str [],.str []] [(0,1,.k (.str [49,57,47,51])),(1,1,.k (.str [49]))],(some (94,true))⟩,⟨some 97,.eq false [2,2] (.v 95) (.v 96),(some (94,true))⟩,oU 98 (.pick (.v 94) (.v 97) (.k (.bool false))),oC 0 98] [0]) (.ret))))))))
def rs13 : List RV := [.t 0]
theorem chk13 : chkFn Tryz.prog Tryz.f13 0 pc13 rs13 = true := by kernel_rfl
theorem rule13 : Rl 13 0 pc13 rs13 := rlM Tryz.func13 chk13

/-- klippe/kink.Direction -/
def pc14 : PC := .seq (.reg [ oU 2 (.alloc [.str [],.str []]),oU 3 (.cp (.k (.int .i64 0)))] [0,2]) (.seq (.seq (.reg [ oC 4 0,oU 5 (.call 54 [.v 4]),oU 6 (.ci .neq (.v 5) (.k (.int .i64 0)))] [0,2,6]) (.cnd (.v 6) (.seq (.reg [ oU 7 (.bld [.str [],.str []] []),⟨none,.st 2 (.v 2) (.v 7),none⟩,oU 3 (.cp (.k (.int .i64 2)))] [2,3]) (.ret)) (.skip))) (.seq (.reg [ oC 8 0,oU 9 (.call 56 [.v 8]),oU 10 (.call 55 [.v 9]),oU 11 (.ext 10 0),oU 12 (.ext 10 1),⟨none,.st 2 (.v 2) (.v 11),none⟩,oC 3 12] [2,3]) (.ret)))
def rs14 : List RV := [.c 2 true 2, .t 3]
theorem chk14 : chkFn Tryz.prog Tryz.f14 1 pc14 rs14 = true := by kernel_rfl
theorem rule14 : Rl 14 1 pc14 rs14 := rlM Tryz.func14 chk14

/-- klippe/klippelaw40.wrong -/
def pc15 : PC := .seq (.reg [ oU 2 (.cp (.k (.bool false)))] [0]) (.seq (.reg [ oC 3 0,oU 4 (.call 54 [.v 3]),oU 5 (.ci .neq (.v 4) (.k (.int .i64 0))),oC 2 5] [2]) (.ret))
def rs15 : List RV := [.t 2]
theorem chk15 : chkFn Tryz.prog Tryz.f15 1 pc15 rs15 = true := by kernel_rfl
theorem rule15 : Rl 15 1 pc15 rs15 := rlM Tryz.func15 chk15

/-- klippe/klippelaw40.direction -/
def pc16 : PC := .seq (.reg [ oU 2 (.alloc [.str [],.str []])] [0,2]) (.seq (.reg [ oC 5 0,oC 6 0,oU 7 (.call 29 [.v 5,.v 6]),oC 3 7] [0,2,3]) (.seq (.reg [ oC 8 3,oU 9 (.call 23 [.k (.str [49]),.v 8]),oC 4 9] [0,2,3,4]) (.seq (.reg [ oC 10 3,oU 11 (.call 30 [.k (.str [49]),.v 10]),oC 12 4,oU 13 (.call 57 [.v 11,.v 12]),oC 14 0,oU 15 (.call 29 [.k (.str [50]),.v 14]),oC 16 4,oU 17 (.call 57 [.v 15,.v 16]),oU 18 (.bld [.str [],.str []] [(0,1,.v 13),(1,1,.v 17)]),⟨none,.st 2 (.v 2) (.v 18),none⟩] [2]) (.ret))))
def rs16 : List RV := [.c 2 true 2]
theorem chk16 : chkFn Tryz.prog Tryz.f16 1 pc16 rs16 = true := by kernel_rfl
theorem rule16 : Rl 16 1 pc16 rs16 := rlM Tryz.func16 chk16

/-- klippe/kink.Axes -/
def pc19 : PC := .seq (.reg [ oU 1 (.bx 4 (.v 0)),oU 2 (.nil 52),oU 3 (.cp (.k (.int .i64 0)))] [1]) (.seq (.seq (.reg [ oU 8 (.ld true 4 (.v 1)),oU 9 (.call 42 [.v 8]),oC 4 9] [1,4]) (.seq (.reg [ oC 10 4,oU 11 (.ci .neq (.v 10) (.k (.int .i64 0)))] [1,4,11]) (.cnd (.v 11) (.seq (.reg [ oC 12 4,oU 2 (.nil 52),oC 3 12] [2,3]) (.ret)) (.skip)))) (.seq (.reg [ oU 13 (.ld true 4 (.v 1)),oU 14 (.call 60 [.v 13]),oU 5 (.tk 14)] [5]) (.seq (.reg [ oU 15 (.sh (.v 5)),oU 16 (.sh (.v 5)),oU 17 (.len (.v 16)),oU 18 (.ari .sub .i64 (.v 17) (.k (.int .i64 1))),oU 19 (.slc 4 (.v 15) (some (.k (.int .i64 1))) (some (.v 18))),oC 5 19] [5]) (.seq (.seq (.reg [ oU 20 (.mv (.v 5)),oU 21 (.len (.o 20 5)),oU 22 (.ci .eql (.v 21) (.k (.int .i64 0)))] [5,22]) (.cnd (.v 22) (.seq (.reg [ oU 2 (.nil 52),oU 3 (.cp (.k (.int .i64 0)))] [2,3]) (.ret)) (.skip))) (.seq (.seq (.reg [ oU 23 (.sh (.v 5)),oU 24 (.len (.v 23)),oU 25 (.cp (.k (.int .i64 0)))] [5,23,24,25]) (.blk 0 (.loop (.seq (.reg [ oU 26 (.ci .lss (.v 25) (.v 24))] [5,23,24,25,26]) (.seq (.cnd (.v 26) (.skip) (.exit 0)) (.seq (.blk 1 (.seq (.reg [ oU 27 (.ia 4 (.v 23) (.v 25)),oU 28 (.ld true 4 (.o 27 23)),oU 7 (.alloc [.str [],.str [],.str [],.str []]),⟨none,.st 4 (.v 7) (.v 28),none⟩] [5,7,23,24,25]) (.seq (.reg [ oU 29 (.fa 0 (.v 7)),oU 30 (.ld true 2 (.o 29 7)),oU 31 (.call 61 [.v 30]),oU 32 (.ci .neq (.v 31) (.k (.int .i64 0))),oC 33 32,⟨some 34,.fa 2 (.v 7),(some (33,false))⟩,⟨some 35,.ld true 2 (.o 34 7),(some (33,false))⟩,⟨some 36,.call 61 [.v 35],(some (33,false))⟩,⟨some 37,.ci .neq (.v 36) (.k (.int .i64 0)),(some (33,false))⟩,oU 38 (.pick (.v 33) (.k (.bool true)) (.v 37))] [5,23,24,25,38]) (.cnd (.v 38) (.seq (.reg [ oU 2 (.nil 52),oU 3 (.cp (.k (.int .i64 4)))] [2,3]) (.ret)) (.skip))))) (.reg [ oU 39 (.ari .add .i64 (.v 25) (.k (.int .i64 1))),oC 25 39] [5,23,24,25]))))))) (.seq (.reg [ oU 40 (.tk 5),oU 2 (.tk 40),oU 3 (.cp (.k (.int .i64 0)))] [2,3]) (.ret)))))))
def rs19 : List RV := [.t 2, .t 3]
theorem chk19 : chkFn Tryz.prog Tryz.f19 1 pc19 rs19 = true := by kernel_rfl
theorem rule19 : Rl 19 1 pc19 rs19 := rlM Tryz.func19 chk19

/-- klippe/kink.Reach -/
def pc20 : PC := .seq (.reg [ oU 1 (.bx 4 (.v 0)),oU 2 (.cp (.k (.str []))),oU 3 (.cp (.k (.str []))),oU 4 (.cp (.k (.int .i64 0)))] [1,2,3]) (.seq (.seq (.reg [ oU 11 (.ld true 4 (.v 1)),oU 12 (.call 42 [.v 11]),oC 5 12] [1,2,3,5]) (.seq (.reg [ oC 13 5,oU 14 (.ci .neq (.v 13) (.k (.int .i64 0)))] [1,2,3,5,14]) (.cnd (.v 14) (.seq (.reg [ oC 15 5,oU 2 (.cp (.k (.str []))),oU 3 (.cp (.k (.str []))),oC 4 15] [2,3,4]) (.ret)) (.skip)))) (.seq (.seq (.reg [ oU 16 (.ld true 4 (.v 1)),oU 17 (.call 62 [.v 16]),oU 18 (.len (.v 17)),oU 19 (.cp (.k (.int .i64 0)))] [1,2,3,17,18,19]) (.blk 0 (.loop (.seq (.reg [ oU 20 (.ci .lss (.v 19) (.v 18))] [1,2,3,17,18,19,20]) (.seq (.cnd (.v 20) (.skip) (.exit 0)) (.seq (.blk 1 (.seq (.reg [ oC 21 19,oU 22 (.ia 1 (.v 17) (.v 19)),oU 23 (.ld false 1 (.o 22 17)),oC 6 21,oC 7 23] [1,2,3,6,7,17,18,19]) (.seq (.seq (.reg [ oC 24 7,oU 25 (.sc .eql (.v 24) (.k (.str [48])))] [1,2,3,6,7,17,18,19,25]) (.cnd (.v 25) (.exit 1) (.skip))) (.seq (.reg [ oU 26 (.fa 3 (.v 1)),oU 27 (.ld false 1 (.o 26 1)),oC 28 6,oU 29 (.ia 1 (.v 27) (.v 28)),oU 30 (.ld false 1 (.v 29)),oU 31 (.call 64 [.v 30]),oC 32 7,oU 33 (.call 63 [.v 31,.v 32]),oC 8 33] [1,2,3,7,8,17,18,19]) (.blk 2 (.seq (.reg [ oC 35 7,oU 36 (.call 35 [.v 35]),oU 37 (.ci .gtr (.v 36) (.k (.int .i64 0))),oC 38 37,⟨some 39,.cp (.v 2),(some (38,true))⟩,⟨some 40,.sc .eql (.v 39) (.k (.str [])),(some (38,true))⟩,⟨some 41,.cp (.v 40),(some (38,true))⟩,⟨some 42,.cp (.v 8),(some (41,false))⟩,⟨some 43,.cp (.v 2),(some (41,false))⟩,⟨some 44,.call 36 [.v 42,.v 43],(some (41,false))⟩,⟨some 45,.ci .gtr (.v 44) (.k (.int .i64 0)),(some (41,false))⟩,⟨some 46,.pick (.v 41) (.k (.bool true)) (.v 45),(some (38,true))⟩,oU 47 (.pick (.v 38) (.v 46) (.k (.bool false))),oC 34 47] [1,2,3,7,8,17,18,19,34]) (.cnd (.v 34) (.reg [ oC 48 8,oC 2 48] [1,2,3,17,18,19]) (.seq (.reg [ oC 50 7,oU 51 (.call 35 [.v 50]),oU 52 (.ci .lss (.v 51) (.k (.int .i64 0))),oC 53 52,⟨some 54,.cp (.v 3),(some (53,true))⟩,⟨some 55,.sc .eql (.v 54) (.k (.str [])),(some (53,true))⟩,⟨some 56,.cp (.v 55),(some (53,true))⟩,⟨some 57,.cp (.v 8),(some (56,false))⟩,⟨some 58,.cp (.v 3),(some (56,false))⟩,⟨some 59,.call 36 [.v 57,.v 58],(some (56,false))⟩,⟨some 60,.ci .lss (.v 59) (.k (.int .i64 0)),(some (56,false))⟩,⟨some 61,.pick (.v 56) (.k (.bool true)) (.v 60),(some (53,true))⟩,oU 62 (.pick (.v 53) (.v 61) (.k (.bool false))),oC 49 62] [1,2,3,8,17,18,19,49]) (.cnd (.v 49) (.reg [ oC 63 8,oC 3 63] [1,2,3,17,18,19]) (.skip)))))))))) (.reg [ oU 64 (.ari .add .i64 (.v 19) (.k (.int .i64 1))),oC 19 64] [1,2,3,17,18,19]))))))) (.seq (.seq (.reg [ oC 65 2,oC 66 3,oU 67 (.bldS 22 [.str []] 2 [(0,1,.v 65),(1,1,.v 66)]),oU 68 (.len (.v 67)),oU 69 (.cp (.k (.int .i64 0)))] [2,3,67,68,69]) (.blk 3 (.loop (.seq (.reg [ oU 70 (.ci .lss (.v 69) (.v 68))] [2,3,67,68,69,70]) (.seq (.cnd (.v 70) (.skip) (.exit 3)) (.seq (.blk 4 (.seq (.reg [ oU 71 (.ia 1 (.v 67) (.v 69)),oU 72 (.ld false 1 (.o 71 67)),oC 10 72] [2,3,10,67,68,69]) (.seq (.reg [ oC 73 10,oU 74 (.sc .neq (.v 73) (.k (.str []))),oC 75 74,⟨some 76,.cp (.v 10),(some (75,true))⟩,⟨some 77,.call 54 [.v 76],(some (75,true))⟩,⟨some 78,.ci .neq (.v 77) (.k (.int .i64 0)),(some (75,true))⟩,oU 79 (.pick (.v 75) (.v 78) (.k (.bool false)))] [2,3,67,68,69,79]) (.cnd (.v 79) (.seq (.reg [ oU 2 (.cp (.k (.str []))),oU 3 (.cp (.k (.str []))),oU 4 (.cp (.k (.int .i64 4)))] [2,3,4]) (.ret)) (.skip))))) (.reg [ oU 80 (.ari .add .i64 (.v 69) (.k (.int .i64 1))),oC 69 80] [2,3,67,68,69]))))))) (.seq (.reg [ oC 81 2,oC 82 3,oC 2 81,oC 3 82,oU 4 (.cp (.k (.int .i64 0)))] [2,3,4]) (.ret)))))
def rs20 : List RV := [.t 2, .t 3, .t 4]
theorem chk20 : chkFn Tryz.prog Tryz.f20 1 pc20 rs20 = true := by kernel_rfl
theorem rule20 : Rl 20 1 pc20 rs20 := rlM Tryz.func20 chk20

/-- klippe/rational.Add -/
def pc23 : PC := .seq (.reg [ oU 4 (.cp (.k (.str [])))] [0,1]) (.seq (.seq (.reg [ oC 15 0,oU 16 (.sc .eql (.v 15) (.k (.str [48])))] [0,1,16]) (.cnd (.v 16) (.seq (.reg [ oC 17 1,oC 4 17] [4]) (.ret)) (.skip))) (.seq (.seq (.reg [ oC 18 1,oU 19 (.sc .eql (.v 18) (.k (.str [48])))] [0,1,19]) (.cnd (.v 19) (.seq (.reg [ oC 20 0,oC 4 20] [4]) (.ret)) (.skip))) (.seq (.seq (.reg [ oC 22 0,oU 23 (.call 67 [.v 22]),oC 21 23,oU 24 (.ext 21 0),oU 25 (.ext 21 1),oU 26 (.ext 21 2),oC 5 24,oC 6 25,oC 7 26] [0,1,5,6,7]) (.seq (.reg [ oC 27 7] [0,1,5,6,27]) (.cnd (.v 27) (.seq (.reg [ oC 29 1,oU 30 (.call 67 [.v 29]),oC 28 30,oU 31 (.ext 28 0),oU 32 (.ext 28 1),oU 33 (.ext 28 2),oC 8 31,oC 9 32,oC 10 33] [0,1,5,6,8,9,10]) (.seq (.reg [ oC 34 10] [0,1,5,6,8,9,34]) (.cnd (.v 34) (.seq (.reg [ oC 35 5,oC 36 9,oU 37 (.ari .mul .i64 (.v 35) (.v 36)),oC 38 8,oC 39 6,oU 40 (.ari .mul .i64 (.v 38) (.v 39)),oU 41 (.ari .add .i64 (.v 37) (.v 40)),oC 42 6,oC 43 9,oU 44 (.ari .mul .i64 (.v 42) (.v 43)),oU 45 (.call 68 [.v 41,.v 44]),oC 4 45] [4]) (.ret)) (.skip)))) (.skip)))) (.seq (.reg [ oC 47 0,oU 48 (.call 69 [.v 47]),oC 46 48,oU 49 (.ext 46 0),oU 50 (.ext 46 1),oC 11 49,oC 12 50] [1,11,12]) (.seq (.reg [ oC 52 1,oU 53 (.call 69 [.v 52]),oC 51 53,oU 54 (.ext 51 0),oU 55 (.ext 51 1),oC 13 54,oC 14 55] [11,12,13,14]) (.seq (.reg [ oC 56 11,oC 57 14,oU 58 (.call 72 [.v 56,.v 57]),oC 59 13,oC 60 12,oU 61 (.call 72 [.v 59,.v 60]),oU 62 (.call 71 [.v 58,.v 61]),oC 63 12,oC 64 14,oU 65 (.call 72 [.v 63,.v 64]),oU 66 (.call 70 [.v 62,.v 65]),oC 4 66] [4]) (.ret)))))))
def rs23 : List RV := [.t 4]
theorem chk23 : chkFn Tryz.prog Tryz.f23 2 pc23 rs23 = true := by kernel_rfl
theorem rule23 : Rl 23 2 pc23 rs23 := rlM Tryz.func23 chk23

/-- klippe/kink.Area -/
def pc26 : PC := .seq (.reg [ oU 3 (.bx 4 (.v 0)),oU 6 (.cp (.k (.str []))),oU 7 (.cp (.k (.int .i64 0)))] [1,2,3]) (.seq (.seq (.reg [ oU 10 (.ld true 4 (.v 3)),oC 11 1,oC 12 2,oU 13 (.bldS 22 [.str []] 2 [(0,1,.v 11),(1,1,.v 12)]),oU 14 (.call 80 [.v 10,.v 13]),oC 8 14] [1,2,3,8]) (.seq (.reg [ oC 15 8,oU 16 (.ci .neq (.v 15) (.k (.int .i64 0)))] [1,2,3,8,16]) (.cnd (.v 16) (.seq (.reg [ oC 17 8,oU 6 (.cp (.k (.str []))),oC 7 17] [6,7]) (.ret)) (.skip)))) (.seq (.seq (.reg [ oC 18 1,oC 19 2,oU 20 (.call 36 [.v 18,.v 19]),oU 21 (.ci .geq (.v 20) (.k (.int .i64 0)))] [1,2,3,21]) (.cnd (.v 21) (.seq (.reg [ oU 6 (.cp (.k (.str []))),oU 7 (.cp (.k (.int .i64 6)))] [6,7]) (.ret)) (.skip))) (.seq (.reg [ oU 22 (.ld true 4 (.v 3)),oC 23 1,oU 24 (.call 78 [.v 22,.v 23]),oU 25 (.call 79 [.v 24]),oU 26 (.ld true 4 (.v 3)),oC 27 2,oU 28 (.call 78 [.v 26,.v 27]),oU 29 (.call 79 [.v 28]),oU 30 (.call 48 [.v 25,.v 29]),oC 9 30] [1,2,9]) (.seq (.reg [ oC 31 9,oC 32 2,oC 33 1,oU 34 (.call 30 [.v 32,.v 33]),oU 35 (.call 29 [.v 31,.v 34]),oU 36 (.call 81 [.v 35]),oU 37 (.ext 36 0),oU 38 (.ext 36 1),oC 6 37,oC 7 38] [6,7]) (.ret)))))
def rs26 : List RV := [.t 6, .t 7]
theorem chk26 : chkFn Tryz.prog Tryz.f26 3 pc26 rs26 = true := by kernel_rfl
theorem rule26 : Rl 26 3 pc26 rs26 := rlM Tryz.func26 chk26

/-- klippe/rational.Mul -/
def pc29 : PC := .seq (.reg [ oU 4 (.cp (.k (.str [])))] [0,1]) (.seq (.blk 0 (.seq (.seq (.reg [ oC 16 0,oU 17 (.sc .eql (.v 16) (.k (.str [48]))),oC 15 17] [0,1,15]) (.cnd (.v 15) (.skip) (.reg [ oC 18 1,oU 19 (.sc .eql (.v 18) (.k (.str [48]))),oC 15 19] [0,1,15]))) (.cnd (.v 15) (.seq (.reg [ oU 4 (.cp (.k (.str [48])))] [4]) (.ret)) (.seq (.reg [ oC 21 0,oU 22 (.sc .eql (.v 21) (.k (.str [49]))),oC 20 22] [0,1,20]) (.cnd (.v 20) (.seq (.reg [ oC 23 1,oC 4 23] [4]) (.ret)) (.seq (.reg [ oC 25 1,oU 26 (.sc .eql (.v 25) (.k (.str [49]))),oC 24 26] [0,1,24]) (.cnd (.v 24) (.seq (.reg [ oC 27 0,oC 4 27] [4]) (.ret)) (.skip)))))))) (.seq (.seq (.reg [ oC 29 0,oU 30 (.call 67 [.v 29]),oC 28 30,oU 31 (.ext 28 0),oU 32 (.ext 28 1),oU 33 (.ext 28 2),oC 5 31,oC 6 32,oC 7 33] [0,1,5,6,7]) (.seq (.reg [ oC 34 7] [0,1,5,6,34]) (.cnd (.v 34) (.seq (.reg [ oC 36 1,oU 37 (.call 67 [.v 36]),oC 35 37,oU 38 (.ext 35 0),oU 39 (.ext 35 1),oU 40 (.ext 35 2),oC 8 38,oC 9 39,oC 10 40] [0,1,5,6,8,9,10]) (.seq (.reg [ oC 41 10] [0,1,5,6,8,9,41]) (.cnd (.v 41) (.seq (.reg [ oC 42 5,oC 43 8,oU 44 (.ari .mul .i64 (.v 42) (.v 43)),oC 45 6,oC 46 9,oU 47 (.ari .mul .i64 (.v 45) (.v 46)),oU 48 (.call 68 [.v 44,.v 47]),oC 4 48] [4]) (.ret)) (.skip)))) (.skip)))) (.seq (.reg [ oC 50 0,oU 51 (.call 69 [.v 50]),oC 49 51,oU 52 (.ext 49 0),oU 53 (.ext 49 1),oC 11 52,oC 12 53] [1,11,12]) (.seq (.reg [ oC 55 1,oU 56 (.call 69 [.v 55]),oC 54 56,oU 57 (.ext 54 0),oU 58 (.ext 54 1),oC 13 57,oC 14 58] [11,12,13,14]) (.seq (.reg [ oC 59 11,oC 60 13,oU 61 (.call 72 [.v 59,.v 60]),oC 62 12,oC 63 14,oU 64 (.call 72 [.v 62,.v 63]),oU 65 (.call 70 [.v 61,.v 64]),oC 4 65] [4]) (.ret))))))
def rs29 : List RV := [.t 4]
theorem chk29 : chkFn Tryz.prog Tryz.f29 2 pc29 rs29 = true := by kernel_rfl
theorem rule29 : Rl 29 2 pc29 rs29 := rlM Tryz.func29 chk29

/-- klippe/rational.Sub -/
def pc30 : PC := .seq (.reg [ oU 4 (.cp (.k (.str [])))] [0,1]) (.seq (.reg [ oC 5 0,oC 6 1,oU 7 (.call 64 [.v 6]),oU 8 (.call 23 [.v 5,.v 7]),oC 4 8] [4]) (.ret))
def rs30 : List RV := [.t 4]
theorem chk30 : chkFn Tryz.prog Tryz.f30 2 pc30 rs30 = true := by kernel_rfl
theorem rule30 : Rl 30 2 pc30 rs30 := rlM Tryz.func30 chk30

/-- klippe/rational.Sign -/
def pc35 : PC := .seq (.reg [ oU 2 (.cp (.k (.int .i64 0)))] [0]) (.seq (.blk 0 (.seq (.reg [ oC 4 0,oU 5 (.sc .eql (.v 4) (.k (.str [48]))),oC 3 5] [0,3]) (.cnd (.v 3) (.seq (.reg [ oU 2 (.cp (.k (.int .i64 0)))] [2]) (.ret)) (.seq (.reg [ oC 7 0,oU 8 (.lenS (.v 7)),oU 9 (.ci .gtr (.v 8) (.k (.int .i64 0))),oC 10 9,⟨some 11,.cp (.v 0),(some (10,true))⟩,⟨some 12,.ix (.v 11) (.k (.int .i64 0)),(some (10,true))⟩,⟨some 13,.ci .eql (.v 12) (.k (.int .u8 45)),(some (10,true))⟩,oU 14 (.pick (.v 10) (.v 13) (.k (.bool false))),oC 6 14] [6]) (.cnd (.v 6) (.seq (.reg [ oU 2 (.cp (.k (.int .i64 (-1))))] [2]) (.ret)) (.skip)))))) (.seq (.reg [ oU 2 (.cp (.k (.int .i64 1)))] [2]) (.ret)))
def rs35 : List RV := [.t 2]
theorem chk35 : chkFn Tryz.prog Tryz.f35 1 pc35 rs35 = true := by kernel_rfl
theorem rule35 : Rl 35 1 pc35 rs35 := rlM Tryz.func35 chk35

/-- klippe/rational.Compare -/
def pc36 : PC := .seq (.reg [ oU 4 (.cp (.k (.int .i64 0)))] [0,1]) (.seq (.seq (.reg [ oC 17 0,oC 18 1,oU 19 (.sc .eql (.v 17) (.v 18))] [0,1,19]) (.cnd (.v 19) (.seq (.reg [ oU 4 (.cp (.k (.int .i64 0)))] [4]) (.ret)) (.skip))) (.seq (.seq (.reg [ oC 21 0,oU 22 (.call 67 [.v 21]),oC 20 22,oU 23 (.ext 20 0),oU 24 (.ext 20 1),oU 25 (.ext 20 2),oC 5 23,oC 6 24,oC 7 25] [0,1,5,6,7]) (.seq (.reg [ oC 26 7] [0,1,5,6,26]) (.cnd (.v 26) (.seq (.reg [ oC 28 1,oU 29 (.call 67 [.v 28]),oC 27 29,oU 30 (.ext 27 0),oU 31 (.ext 27 1),oU 32 (.ext 27 2),oC 8 30,oC 9 31,oC 10 32] [0,1,5,6,8,9,10]) (.seq (.reg [ oC 33 10] [0,1,5,6,8,9,33]) (.cnd (.v 33) (.seq (.seq (.reg [ oC 34 5,oC 35 9,oU 36 (.ari .mul .i64 (.v 34) (.v 35)),oC 37 8,oC 38 6,oU 39 (.ari .mul .i64 (.v 37) (.v 38)),oC 11 36,oC 12 39] [11,12]) (.blk 0 (.seq (.reg [ oC 41 11,oC 42 12,oU 43 (.ci .lss (.v 41) (.v 42)),oC 40 43] [11,12,40]) (.cnd (.v 40) (.seq (.reg [ oU 4 (.cp (.k (.int .i64 (-1))))] [4]) (.ret)) (.seq (.reg [ oC 45 11,oC 46 12,oU 47 (.ci .gtr (.v 45) (.v 46)),oC 44 47] [44]) (.cnd (.v 44) (.seq (.reg [ oU 4 (.cp (.k (.int .i64 1)))] [4]) (.ret)) (.skip))))))) (.seq (.reg [ oU 4 (.cp (.k (.int .i64 0)))] [4]) (.ret))) (.skip)))) (.skip)))) (.seq (.reg [ oC 49 0,oU 50 (.call 69 [.v 49]),oC 48 50,oU 51 (.ext 48 0),oU 52 (.ext 48 1),oC 13 51,oC 14 52] [1,13,14]) (.seq (.reg [ oC 54 1,oU 55 (.call 69 [.v 54]),oC 53 55,oU 56 (.ext 53 0),oU 57 (.ext 53 1),oC 15 56,oC 16 57] [13,14,15,16]) (.seq (.reg [ oC 58 13,oC 59 16,oU 60 (.call 72 [.v 58,.v 59]),oC 61 15,oC 62 14,oU 63 (.call 72 [.v 61,.v 62]),oU 64 (.call 84 [.v 60,.v 63]),oC 4 64] [4]) (.ret))))))
def rs36 : List RV := [.t 4]
theorem chk36 : chkFn Tryz.prog Tryz.f36 2 pc36 rs36 = true := by kernel_rfl
theorem rule36 : Rl 36 2 pc36 rs36 := rlM Tryz.func36 chk36

/-- klippe/kink.Check -/
def pc42 : PC := .seq (.reg [ oU 1 (.bx 4 (.v 0)),oU 2 (.cp (.k (.int .i64 0)))] [1]) (.seq (.blk 0 (.seq (.reg [ oU 6 (.fa 2 (.v 1)),oU 7 (.ld false 1 (.o 6 1)),oU 8 (.len (.v 7)),oU 9 (.ci .eql (.v 8) (.k (.int .i64 0))),oC 5 9] [1,5]) (.cnd (.v 5) (.seq (.reg [ oU 2 (.cp (.k (.int .i64 13)))] [2]) (.ret)) (.seq (.reg [ oU 11 (.fa 2 (.v 1)),oU 12 (.ld false 1 (.o 11 1)),oU 13 (.len (.v 12)),oU 14 (.ci .gtr (.v 13) (.k (.int .i64 20))),oC 10 14] [1,10]) (.cnd (.v 10) (.seq (.reg [ oU 2 (.cp (.k (.int .i64 4)))] [2]) (.ret)) (.seq (.reg [ oU 16 (.fa 3 (.v 1)),oU 17 (.ld false 1 (.o 16 1)),oU 18 (.len (.v 17)),oU 19 (.fa 2 (.v 1)),oU 20 (.ld false 1 (.o 19 1)),oU 21 (.len (.v 20)),oU 22 (.ci .neq (.v 18) (.v 21)),oC 15 22] [1,15]) (.cnd (.v 15) (.seq (.reg [ oU 2 (.cp (.k (.int .i64 5)))] [2]) (.ret)) (.seq (.reg [ oU 24 (.fa 0 (.v 1)),oU 25 (.ld true 2 (.o 24 1)),oU 26 (.call 61 [.v 25]),oU 27 (.ci .neq (.v 26) (.k (.int .i64 0))),oC 23 27] [1,23]) (.cnd (.v 23) (.seq (.reg [ oU 2 (.cp (.k (.int .i64 2)))] [2]) (.ret)) (.skip)))))))))) (.seq (.seq (.reg [ oU 28 (.fa 2 (.v 1)),oU 29 (.ld false 1 (.o 28 1)),oU 30 (.len (.v 29)),oU 31 (.cp (.k (.int .i64 0)))] [1,29,30,31]) (.blk 1 (.loop (.seq (.reg [ oU 32 (.ci .lss (.v 31) (.v 30))] [1,29,30,31,32]) (.seq (.cnd (.v 32) (.skip) (.exit 1)) (.seq (.blk 2 (.seq (.reg [ oC 33 31,oU 34 (.ia 1 (.v 29) (.v 31)),oU 35 (.ld false 1 (.v 34)),oC 3 33,oC 4 35] [1,3,4,29,30,31]) (.blk 3 (.seq (.reg [ oC 37 4,oU 38 (.call 54 [.v 37]),oU 39 (.ci .neq (.v 38) (.k (.int .i64 0))),oC 40 39,⟨some 41,.fa 3 (.v 1),(some (40,false))⟩,⟨some 42,.ld false 1 (.o 41 1),(some (40,false))⟩,⟨some 43,.cp (.v 3),(some (40,false))⟩,⟨some 44,.ia 1 (.v 42) (.v 43),(some (40,false))⟩,⟨some 45,.ld false 1 (.v 44),(some (40,false))⟩,⟨some 46,.call 54 [.v 45],(some (40,false))⟩,⟨some 47,.ci .neq (.v 46) (.k (.int .i64 0)),(some (40,false))⟩,oU 48 (.pick (.v 40) (.k (.bool true)) (.v 47)),oC 36 48] [1,3,4,29,30,31,36]) (.cnd (.v 36) (.seq (.reg [ oU 2 (.cp (.k (.int .i64 2)))] [2]) (.ret)) (.seq (.reg [ oC 50 4,oU 51 (.call 85 [.v 50]),oU 52 (.call 36 [.v 51,.k (.str [49])]),oU 53 (.ci .geq (.v 52) (.k (.int .i64 0))),oC 54 53,⟨some 55,.fa 3 (.v 1),(some (54,false))⟩,⟨some 56,.ld false 1 (.o 55 1),(some (54,false))⟩,⟨some 57,.cp (.v 3),(some (54,false))⟩,⟨some 58,.ia 1 (.v 56) (.v 57),(some (54,false))⟩,⟨some 59,.ld false 1 (.v 58),(some (54,false))⟩,⟨some 60,.call 35 [.v 59],(some (54,false))⟩,⟨some 61,.ci .leq (.v 60) (.k (.int .i64 0)),(some (54,false))⟩,oU 62 (.pick (.v 54) (.k (.bool true)) (.v 61)),oC 49 62] [1,29,30,31,49]) (.cnd (.v 49) (.seq (.reg [ oU 2 (.cp (.k (.int .i64 3)))] [2]) (.ret)) (.skip)))))))) (.reg [ oU 63 (.ari .add .i64 (.v 31) (.k (.int .i64 1))),oC 31 63] [1,29,30,31]))))))) (.seq (.reg [ oU 2 (.cp (.k (.int .i64 0)))] [2]) (.ret))))
def rs42 : List RV := [.t 2]
theorem chk42 : chkFn Tryz.prog Tryz.f42 1 pc42 rs42 = true := by kernel_rfl
theorem rule42 : Rl 42 1 pc42 rs42 := rlM Tryz.func42 chk42

/-- klippe/vector.At -/
def pc44 : PC := .seq (.reg [ oU 4 (.alloc [.str [],.str []])] [0,1,4]) (.seq (.reg [ oC 5 0,oU 6 (.call 58 [.v 5]),oC 7 1,oU 8 (.call 58 [.v 7]),oU 9 (.bld [.str [],.str []] [(0,1,.v 6),(1,1,.v 8)]),⟨none,.st 2 (.v 4) (.v 9),none⟩] [4]) (.ret))
def rs44 : List RV := [.c 4 true 2]
theorem chk44 : chkFn Tryz.prog Tryz.f44 2 pc44 rs44 = true := by kernel_rfl
theorem rule44 : Rl 44 2 pc44 rs44 := rlM Tryz.func44 chk44

/-- klippe/rational.Middle -/
def pc48 : PC := .seq (.reg [ oU 4 (.cp (.k (.str [])))] [0,1]) (.seq (.reg [ oC 5 0,oC 6 1,oU 7 (.call 23 [.v 5,.v 6]),oU 8 (.call 29 [.v 7,.k (.str [49,47,50])]),oC 4 8] [4]) (.ret))
def rs48 : List RV := [.t 4]
theorem chk48 : chkFn Tryz.prog Tryz.f48 2 pc48 rs48 = true := by kernel_rfl
theorem rule48 : Rl 48 2 pc48 rs48 := rlM Tryz.func48 chk48

/-- klippe/klippelaw40.example -/
def pc53 : PC := .seq (.reg [ oU 0 (.alloc [.str [],.str [],.sl 0 [],.sl 0 []])] [0]) (.seq (.reg [ oU 1 (.call 44 [.k (.int .i64 0),.k (.int .i64 0)]),oU 2 (.bldS 22 [.str []] 2 [(0,1,.k (.str [49,47,50])),(1,1,.k (.str [45,49,47,50]))]),oU 3 (.bldS 22 [.str []] 2 [(0,1,.k (.str [53])),(1,1,.k (.str [53]))]),oU 4 (.bldA [.str [],.str [],.sl 0 [],.sl 0 []] [(0,2,.v 1),(2,1,.v 2),(3,1,.v 3)]),⟨none,.st 4 (.v 0) (.v 4),none⟩] [0]) (.ret))
def rs53 : List RV := [.c 0 true 4]
theorem chk53 : chkFn Tryz.prog Tryz.f53 0 pc53 rs53 = true := by kernel_rfl
theorem rule53 : Rl 53 0 pc53 rs53 := rlM Tryz.func53 chk53

/-- klippe/rational.Check -/
def pc54 : PC := .seq (.reg [ oU 2 (.cp (.k (.int .i64 0)))] [0]) (.seq (.reg [ oC 9 0,oU 10 (.call 99 [.v 9,.k (.str [47])]),oC 8 10,oU 11 (.ext 8 0),oU 12 (.ext 8 1),oU 13 (.ext 8 2),oC 3 11,oC 4 12,oC 5 13] [3,4,5]) (.seq (.seq (.reg [ oC 14 3,oU 15 (.call 100 [.v 14]),oU 16 (.ci .neq (.v 15) (.k (.int .i64 0)))] [3,4,5,16]) (.cnd (.v 16) (.seq (.reg [ oU 2 (.cp (.k (.int .i64 2)))] [2]) (.ret)) (.skip))) (.seq (.seq (.reg [ oC 17 5,oU 18 (.not (.v 17))] [3,4,18]) (.cnd (.v 18) (.seq (.reg [ oU 2 (.cp (.k (.int .i64 0)))] [2]) (.ret)) (.skip))) (.seq (.reg [ oC 19 3,oC 20 4,oC 6 19,oC 7 20] [6,7]) (.seq (.seq (.reg [ oC 21 7,oU 22 (.call 100 [.v 21]),oU 23 (.ci .neq (.v 22) (.k (.int .i64 0))),oC 24 23,⟨some 25,.cp (.v 7),(some (24,false))⟩,⟨some 26,.call 84 [.v 25,.k (.str [49])],(some (24,false))⟩,⟨some 27,.ci .leq (.v 26) (.k (.int .i64 0)),(some (24,false))⟩,oU 28 (.pick (.v 24) (.k (.bool true)) (.v 27)),oC 29 28,⟨some 30,.cp (.v 6),(some (29,false))⟩,⟨some 31,.sc .eql (.v 30) (.k (.str [48])),(some (29,false))⟩,oU 32 (.pick (.v 29) (.k (.bool true)) (.v 31)),oC 33 32,⟨some 34,.cp (.v 6),(some (33,false))⟩,⟨some 35,.cp (.v 7),(some (33,false))⟩,⟨some 36,.call 101 [.v 34,.v 35],(some (33,false))⟩,⟨some 37,.sc .neq (.v 36) (.k (.str [49])),(some (33,false))⟩,oU 38 (.pick (.v 33) (.k (.bool true)) (.v 37))] [38]) (.cnd (.v 38) (.seq (.reg [ oU 2 (.cp (.k (.int .i64 2)))] [2]) (.ret)) (.skip))) (.seq (.reg [ oU 2 (.cp (.k (.int .i64 0)))] [2]) (.ret)))))))
def rs54 : List RV := [.t 2]
theorem chk54 : chkFn Tryz.prog Tryz.f54 1 pc54 rs54 = true := by kernel_rfl
theorem rule54 : Rl 54 1 pc54 rs54 := rlM Tryz.func54 chk54

/-- klippe/kink.place -/
def pc55 : PC := .seq (.reg [ oU 1 (.bx 2 (.v 0)),oU 2 (.alloc [.str [],.str []]),oU 3 (.cp (.k (.int .i64 0)))] [1,2]) (.seq (.seq (.reg [ oU 4 (.ld true 2 (.v 1)),oU 5 (.call 61 [.v 4]),oU 6 (.ci .neq (.v 5) (.k (.int .i64 0)))] [1,2,6]) (.cnd (.v 6) (.seq (.reg [ oU 7 (.bld [.str [],.str []] []),⟨none,.st 2 (.v 2) (.v 7),none⟩,oU 3 (.cp (.k (.int .i64 4)))] [2,3]) (.ret)) (.skip))) (.seq (.reg [ oU 8 (.ld true 2 (.v 1)),⟨none,.st 2 (.v 2) (.v 8),none⟩,oU 3 (.cp (.k (.int .i64 0)))] [2,3]) (.ret)))
def rs55 : List RV := [.c 2 true 2, .t 3]
theorem chk55 : chkFn Tryz.prog Tryz.f55 1 pc55 rs55 = true := by kernel_rfl
theorem rule55 : Rl 55 1 pc55 rs55 := rlM Tryz.func55 chk55

/-- klippe/kink.direction -/
def pc56 : PC := .seq (.reg [ oU 2 (.alloc [.str [],.str []])] [0,2]) (.seq (.reg [ oC 5 0,oC 6 0,oU 7 (.call 29 [.v 5,.v 6]),oC 3 7] [0,2,3]) (.seq (.reg [ oC 8 3,oU 9 (.call 23 [.k (.str [49]),.v 8]),oC 4 9] [0,2,3,4]) (.seq (.reg [ oC 10 3,oU 11 (.call 30 [.k (.str [49]),.v 10]),oC 12 4,oU 13 (.call 63 [.v 11,.v 12]),oC 14 0,oC 15 0,oU 16 (.call 23 [.v 14,.v 15]),oC 17 4,oU 18 (.call 63 [.v 16,.v 17]),oU 19 (.bld [.str [],.str []] [(0,1,.v 13),(1,1,.v 18)]),⟨none,.st 2 (.v 2) (.v 19),none⟩] [2]) (.ret))))
def rs56 : List RV := [.c 2 true 2]
theorem chk56 : chkFn Tryz.prog Tryz.f56 1 pc56 rs56 = true := by kernel_rfl
theorem rule56 : Rl 56 1 pc56 rs56 := rlM Tryz.func56 chk56

/-- klippe/klippelaw40.over -/
def pc57 : PC := .seq (.reg [ oU 4 (.cp (.k (.str [])))] [0,1]) (.seq (.reg [ oC 8 0,oC 9 1,oU 10 (.call 102 [.v 8,.v 9]),oC 7 10,oU 11 (.ext 7 0),oU 12 (.ext 7 1),oC 5 11,oC 6 12] [5]) (.seq (.reg [ oC 13 5,oC 4 13] [4]) (.ret)))
def rs57 : List RV := [.t 4]
theorem chk57 : chkFn Tryz.prog Tryz.f57 2 pc57 rs57 = true := by kernel_rfl
theorem rule57 : Rl 57 2 pc57 rs57 := rlM Tryz.func57 chk57

/-- klippe/rational.Whole -/
def pc58 : PC := .seq (.reg [ oU 2 (.cp (.k (.str [])))] [0]) (.seq (.reg [ oC 3 0,oU 4 (.call 66 [.v 3]),oC 2 4] [2]) (.ret))
def rs58 : List RV := [.t 2]
theorem chk58 : chkFn Tryz.prog Tryz.f58 1 pc58 rs58 = true := by kernel_rfl
theorem rule58 : Rl 58 1 pc58 rs58 := rlM Tryz.func58 chk58

/-- klippe/vector.CheckPoint -/
def pc61 : PC := .seq (.reg [ oU 1 (.bx 2 (.v 0)),oU 2 (.cp (.k (.int .i64 0)))] [1]) (.seq (.reg [ oU 3 (.fa 0 (.v 1)),oU 4 (.ld false 1 (.o 3 1)),oU 5 (.fa 1 (.v 1)),oU 6 (.ld false 1 (.o 5 1)),oU 7 (.bldS 22 [.str []] 2 [(0,1,.v 4),(1,1,.v 6)]),oU 8 (.call 103 [.v 7]),oC 2 8] [2]) (.ret))
def rs61 : List RV := [.t 2]
theorem chk61 : chkFn Tryz.prog Tryz.f61 1 pc61 rs61 = true := by kernel_rfl
theorem rule61 : Rl 61 1 pc61 rs61 := rlM Tryz.func61 chk61

/-- klippe/kink.quotient -/
def pc63 : PC := .seq (.reg [ oU 4 (.cp (.k (.str [])))] [0,1]) (.seq (.reg [ oC 8 0,oC 9 1,oU 10 (.call 102 [.v 8,.v 9]),oC 7 10,oU 11 (.ext 7 0),oU 12 (.ext 7 1),oC 5 11,oC 6 12] [5]) (.seq (.reg [ oC 13 5,oC 4 13] [4]) (.ret)))
def rs63 : List RV := [.t 4]
theorem chk63 : chkFn Tryz.prog Tryz.f63 2 pc63 rs63 = true := by kernel_rfl
theorem rule63 : Rl 63 2 pc63 rs63 := rlM Tryz.func63 chk63

/-- klippe/rational.Neg -/
def pc64 : PC := .seq (.reg [ oU 2 (.cp (.k (.str [])))] [0]) (.seq (.seq (.reg [ oC 3 0,oU 4 (.sc .eql (.v 3) (.k (.str [48])))] [0,4]) (.cnd (.v 4) (.seq (.reg [ oC 5 0,oC 2 5] [2]) (.ret)) (.skip))) (.seq (.seq (.reg [ oC 6 0,oU 7 (.ix (.v 6) (.k (.int .i64 0))),oU 8 (.ci .eql (.v 7) (.k (.int .u8 45)))] [0,8]) (.cnd (.v 8) (.seq (.reg [ oC 9 0,oU 10 (.slS (.v 9) (some (.k (.int .i64 1))) none),oC 2 10] [2]) (.ret)) (.skip))) (.seq (.reg [ oC 11 0,oU 12 (.cat (.k (.str [45])) (.v 11)),oC 2 12] [2]) (.ret))))
def rs64 : List RV := [.t 2]
theorem chk64 : chkFn Tryz.prog Tryz.f64 1 pc64 rs64 = true := by kernel_rfl
theorem rule64 : Rl 64 1 pc64 rs64 := rlM Tryz.func64 chk64

/-- klippe/integer.Of -/
def pc66 : PC := .seq (.reg [ oU 2 (.cp (.k (.str [])))] [0]) (.seq (.reg [ oC 3 0,oU 4 (.call 105 [.v 3]),oC 2 4] [2]) (.ret))
def rs66 : List RV := [.t 2]
theorem chk66 : chkFn Tryz.prog Tryz.f66 1 pc66 rs66 = true := by kernel_rfl
theorem rule66 : Rl 66 1 pc66 rs66 := rlM Tryz.func66 chk66

/-- klippe/rational.quick -/
def pc67 : PC := .seq (.reg [ oU 2 (.cp (.k (.int .i64 0))),oU 3 (.cp (.k (.int .i64 0))),oU 4 (.cp (.k (.bool false)))] [0,2,3]) (.seq (.reg [ oU 5 (.cp (.k (.int .i64 0))),oU 6 (.cp (.k (.bool false)))] [0,2,3,5,6]) (.seq (.seq (.reg [ oC 8 0,oU 9 (.lenS (.v 8)),oU 10 (.ci .gtr (.v 9) (.k (.int .i64 0))),oC 11 10,⟨some 12,.cp (.v 0),(some (11,true))⟩,⟨some 13,.ix (.v 12) (.k (.int .i64 0)),(some (11,true))⟩,⟨some 14,.ci .eql (.v 13) (.k (.int .u8 45)),(some (11,true))⟩,oU 15 (.pick (.v 11) (.v 14) (.k (.bool false)))] [0,2,3,5,6,15]) (.cnd (.v 15) (.reg [ oU 5 (.cp (.k (.int .i64 1))),oU 6 (.cp (.k (.bool true)))] [0,2,3,5,6]) (.skip))) (.seq (.reg [ oC 16 5,oC 7 16] [0,2,3,5,6,7]) (.seq (.blk 0 (.loop (.seq (.seq (.reg [ oC 17 5,oC 18 0,oU 19 (.lenS (.v 18)),oU 20 (.ci .lss (.v 17) (.v 19)),oC 21 20,⟨some 22,.cp (.v 0),(some (21,true))⟩,⟨some 23,.cp (.v 5),(some (21,true))⟩,⟨some 24,.ix (.v 22) (.v 23),(some (21,true))⟩,⟨some 25,.ci .neq (.v 24) (.k (.int .u8 47)),(some (21,true))⟩,oU 26 (.pick (.v 21) (.v 25) (.k (.bool false)))] [0,2,3,5,6,7,26]) (.cnd (.v 26) (.skip) (.exit 0))) (.seq (.blk 1 (.seq (.seq (.reg [ oC 29 5,oC 30 7,oU 31 (.ari .sub .i64 (.v 29) (.v 30)),oU 32 (.ci .eql (.v 31) (.k (.int .i64 9)))] [0,2,3,5,6,7,32]) (.cnd (.v 32) (.seq (.reg [ oU 2 (.cp (.k (.int .i64 0))),oU 3 (.cp (.k (.int .i64 0))),oU 4 (.cp (.k (.bool false)))] [2,3,4]) (.ret)) (.skip))) (.reg [ oC 33 2,oU 34 (.ari .mul .i64 (.k (.int .i64 10)) (.v 33)),oC 35 0,oC 36 5,oU 37 (.ix (.v 35) (.v 36)),oU 38 (.ari .sub .u8 (.v 37) (.k (.int .u8 48))),oU 39 (.cvI .i64 (.v 38)),oU 40 (.ari .add .i64 (.v 34) (.v 39)),oC 2 40] [0,2,3,5,6,7]))) (.reg [ oC 27 5,oU 28 (.ari .add .i64 (.v 27) (.k (.int .i64 1))),oC 5 28] [0,2,3,5,6,7]))))) (.seq (.seq (.reg [ oC 41 6] [0,2,3,5,41]) (.cnd (.v 41) (.reg [ oC 42 2,oU 43 (.ng .i64 (.v 42)),oC 2 43] [0,2,3,5]) (.skip))) (.seq (.seq (.reg [ oC 44 5,oC 45 0,oU 46 (.lenS (.v 45)),oU 47 (.ci .eql (.v 44) (.v 46))] [0,2,3,5,47]) (.cnd (.v 47) (.seq (.reg [ oC 48 2,oC 2 48,oU 3 (.cp (.k (.int .i64 1))),oU 4 (.cp (.k (.bool true)))] [2,3,4]) (.ret)) (.skip))) (.seq (.reg [ oC 49 5,oU 50 (.ari .add .i64 (.v 49) (.k (.int .i64 1))),oC 7 50] [0,2,3,5,7]) (.seq (.seq (.reg [ oC 51 5,oU 52 (.ari .add .i64 (.v 51) (.k (.int .i64 1))),oC 5 52] [0,2,3,5,7]) (.blk 2 (.loop (.seq (.seq (.reg [ oC 53 5,oC 54 0,oU 55 (.lenS (.v 54)),oU 56 (.ci .lss (.v 53) (.v 55))] [0,2,3,5,7,56]) (.cnd (.v 56) (.skip) (.exit 2))) (.seq (.blk 3 (.seq (.seq (.reg [ oC 59 5,oC 60 7,oU 61 (.ari .sub .i64 (.v 59) (.v 60)),oU 62 (.ci .eql (.v 61) (.k (.int .i64 9)))] [0,2,3,5,7,62]) (.cnd (.v 62) (.seq (.reg [ oU 2 (.cp (.k (.int .i64 0))),oU 3 (.cp (.k (.int .i64 0))),oU 4 (.cp (.k (.bool false)))] [2,3,4]) (.ret)) (.skip))) (.reg [ oC 63 3,oU 64 (.ari .mul .i64 (.k (.int .i64 10)) (.v 63)),oC 65 0,oC 66 5,oU 67 (.ix (.v 65) (.v 66)),oU 68 (.ari .sub .u8 (.v 67) (.k (.int .u8 48))),oU 69 (.cvI .i64 (.v 68)),oU 70 (.ari .add .i64 (.v 64) (.v 69)),oC 3 70] [0,2,3,5,7]))) (.reg [ oC 57 5,oU 58 (.ari .add .i64 (.v 57) (.k (.int .i64 1))),oC 5 58] [0,2,3,5,7])))))) (.seq (.reg [ oC 71 2,oC 72 3,oC 2 71,oC 3 72,oU 4 (.cp (.k (.bool true)))] [2,3,4]) (.ret))))))))))
def rs67 : List RV := [.t 2, .t 3, .t 4]
theorem chk67 : chkFn Tryz.prog Tryz.f67 1 pc67 rs67 = true := by kernel_rfl
theorem rule67 : Rl 67 1 pc67 rs67 := rlM Tryz.func67 chk67

/-- klippe/rational.small -/
def pc68 : PC := .seq (.reg [ oU 4 (.cp (.k (.str [])))] [0,1]) (.seq (.reg [ oC 7 0,oC 8 1,oC 5 7,oC 6 8] [0,1,5,6]) (.seq (.blk 0 (.loop (.seq (.seq (.reg [ oC 9 6,oU 10 (.ci .neq (.v 9) (.k (.int .i64 0)))] [0,1,5,6,10]) (.cnd (.v 10) (.skip) (.exit 0))) (.blk 1 (.reg [ oC 11 6,oC 12 5,oC 13 6,oU 14 (.ari .rem .i64 (.v 12) (.v 13)),oC 5 11,oC 6 14] [0,1,5,6]))))) (.seq (.seq (.reg [ oC 15 5,oU 16 (.ci .lss (.v 15) (.k (.int .i64 0)))] [0,1,5,16]) (.cnd (.v 16) (.reg [ oC 17 5,oU 18 (.ng .i64 (.v 17)),oC 5 18] [0,1,5]) (.skip))) (.seq (.reg [ oC 19 0,oC 20 5,oU 21 (.ari .quo .i64 (.v 19) (.v 20)),oC 22 1,oC 23 5,oU 24 (.ari .quo .i64 (.v 22) (.v 23)),oC 0 21,oC 1 24] [0,1]) (.seq (.seq (.reg [ oC 25 1,oU 26 (.ci .eql (.v 25) (.k (.int .i64 1)))] [0,1,26]) (.cnd (.v 26) (.seq (.reg [ oC 27 0,oU 28 (.call 105 [.v 27]),oC 4 28] [4]) (.ret)) (.skip))) (.seq (.reg [ oC 29 0,oU 30 (.call 105 [.v 29]),oU 31 (.cat (.v 30) (.k (.str [47]))),oC 32 1,oU 33 (.call 105 [.v 32]),oU 34 (.cat (.v 31) (.v 33)),oC 4 34] [4]) (.ret)))))))
def rs68 : List RV := [.t 4]
theorem chk68 : chkFn Tryz.prog Tryz.f68 2 pc68 rs68 = true := by kernel_rfl
theorem rule68 : Rl 68 2 pc68 rs68 := rlM Tryz.func68 chk68

/-- klippe/rational.Parts -/
def pc69 : PC := .seq (.reg [ oU 2 (.cp (.k (.str []))),oU 3 (.cp (.k (.str [])))] [0]) (.seq (.reg [ oC 8 0,oU 9 (.call 99 [.v 8,.k (.str [47])]),oC 7 9,oU 10 (.ext 7 0),oU 11 (.ext 7 1),oU 12 (.ext 7 2),oC 4 10,oC 5 11,oC 6 12] [4,5,6]) (.seq (.seq (.reg [ oC 13 6,oU 14 (.not (.v 13))] [4,5,14]) (.cnd (.v 14) (.seq (.reg [ oC 15 4,oC 2 15,oU 3 (.cp (.k (.str [49])))] [2,3]) (.ret)) (.skip))) (.seq (.reg [ oC 16 4,oC 17 5,oC 2 16,oC 3 17] [2,3]) (.ret))))
def rs69 : List RV := [.t 2, .t 3]
theorem chk69 : chkFn Tryz.prog Tryz.f69 1 pc69 rs69 = true := by kernel_rfl
theorem rule69 : Rl 69 1 pc69 rs69 := rlM Tryz.func69 chk69

/-- klippe/rational.lowest -/
def pc70 : PC := .seq (.reg [ oU 4 (.cp (.k (.str [])))] [0,1]) (.seq (.seq (.reg [ oC 6 1,oU 7 (.call 104 [.v 6]),oU 8 (.ci .lss (.v 7) (.k (.int .i64 0)))] [0,1,8]) (.cnd (.v 8) (.reg [ oC 9 0,oU 10 (.call 106 [.v 9]),oC 11 1,oU 12 (.call 106 [.v 11]),oC 0 10,oC 1 12] [0,1]) (.skip))) (.seq (.seq (.reg [ oC 13 0,oC 14 1,oU 15 (.call 101 [.v 13,.v 14]),oC 5 15] [0,1,5]) (.seq (.reg [ oC 16 5,oU 17 (.sc .neq (.v 16) (.k (.str [49])))] [0,1,5,17]) (.cnd (.v 17) (.seq (.reg [ oC 19 0,oC 20 5,oU 21 (.call 107 [.v 19,.v 20]),oC 18 21,oU 22 (.ext 18 0),oU 23 (.ext 18 1),oU 24 (.ext 18 2),oC 0 22] [0,1,5]) (.reg [ oC 26 1,oC 27 5,oU 28 (.call 107 [.v 26,.v 27]),oC 25 28,oU 29 (.ext 25 0),oU 30 (.ext 25 1),oU 31 (.ext 25 2),oC 1 29] [0,1])) (.skip)))) (.seq (.reg [ oC 32 0,oC 33 1,oU 34 (.call 87 [.v 32,.v 33]),oC 4 34] [4]) (.ret))))
def rs70 : List RV := [.t 4]
theorem chk70 : chkFn Tryz.prog Tryz.f70 2 pc70 rs70 = true := by kernel_rfl
theorem rule70 : Rl 70 2 pc70 rs70 := rlM Tryz.func70 chk70

/-- klippe/integer.Add -/
def pc71 : PC := .seq (.reg [ oU 4 (.cp (.k (.str [])))] [0,1]) (.seq (.seq (.reg [ oC 12 0,oU 13 (.call 108 [.v 12,.k (.int .i64 18)]),oC 11 13,oU 14 (.ext 11 0),oU 15 (.ext 11 1),oC 5 14,oC 6 15] [0,1,5,6]) (.seq (.reg [ oC 16 6] [0,1,5,16]) (.cnd (.v 16) (.seq (.reg [ oC 18 1,oU 19 (.call 108 [.v 18,.k (.int .i64 18)]),oC 17 19,oU 20 (.ext 17 0),oU 21 (.ext 17 1),oC 7 20,oC 8 21] [0,1,5,7,8]) (.seq (.reg [ oC 22 8] [0,1,5,7,22]) (.cnd (.v 22) (.seq (.reg [ oC 23 5,oC 24 7,oU 25 (.ari .add .i64 (.v 23) (.v 24)),oU 26 (.call 66 [.v 25]),oC 4 26] [4]) (.ret)) (.skip)))) (.skip)))) (.seq (.reg [ oC 27 0,oU 28 (.call 109 [.v 27]),oC 29 1,oU 30 (.call 109 [.v 29]),oU 9 (.alloc [.bool false,.sl 0 []]),oU 10 (.alloc [.bool false,.sl 0 []]),⟨none,.st 2 (.v 9) (.v 28),none⟩,⟨none,.st 2 (.v 10) (.v 30),none⟩] [9,10]) (.seq (.seq (.reg [ oU 31 (.fa 0 (.v 9)),oU 32 (.ld false 1 (.o 31 9)),oU 33 (.fa 0 (.v 10)),oU 34 (.ld false 1 (.o 33 10)),oU 35 (.eqb false (.v 32) (.v 34))] [9,10,35]) (.cnd (.v 35) (.seq (.reg [ oU 36 (.fa 0 (.v 9)),oU 37 (.ld false 1 (.o 36 9)),oU 38 (.fa 1 (.v 9)),oU 39 (.ld false 1 (.o 38 9)),oU 40 (.fa 1 (.v 10)),oU 41 (.ld false 1 (.o 40 10)),oU 42 (.call 110 [.v 39,.v 41]),oU 43 (.bld [.bool false,.sl 0 []] [(0,1,.v 37),(1,1,.v 42)]),oU 44 (.call 111 [.v 43]),oC 4 44] [4]) (.ret)) (.skip))) (.seq (.seq (.reg [ oU 45 (.fa 1 (.v 9)),oU 46 (.ld false 1 (.o 45 9)),oU 47 (.fa 1 (.v 10)),oU 48 (.ld false 1 (.o 47 10)),oU 49 (.call 112 [.v 46,.v 48]),oU 50 (.ci .lss (.v 49) (.k (.int .i64 0)))] [9,10,50]) (.cnd (.v 50) (.reg [ oU 51 (.ld true 2 (.v 10)),oU 52 (.ld true 2 (.v 9)),⟨none,.st 2 (.v 9) (.v 51),none⟩,⟨none,.st 2 (.v 10) (.v 52),none⟩] [9,10]) (.skip))) (.seq (.reg [ oU 53 (.fa 0 (.v 9)),oU 54 (.ld false 1 (.o 53 9)),oU 55 (.fa 1 (.v 9)),oU 56 (.ld false 1 (.o 55 9)),oU 57 (.fa 1 (.v 10)),oU 58 (.ld false 1 (.o 57 10)),oU 59 (.call 113 [.v 56,.v 58]),oU 60 (.bld [.bool false,.sl 0 []] [(0,1,.v 54),(1,1,.v 59)]),oU 61 (.call 111 [.v 60]),oC 4 61] [4]) (.ret))))))
def rs71 : List RV := [.t 4]
theorem chk71 : chkFn Tryz.prog Tryz.f71 2 pc71 rs71 = true := by kernel_rfl
theorem rule71 : Rl 71 2 pc71 rs71 := rlM Tryz.func71 chk71

/-- klippe/integer.Mul -/
def pc72 : PC := .seq (.reg [ oU 4 (.cp (.k (.str [])))] [0,1]) (.seq (.seq (.reg [ oC 12 0,oU 13 (.call 108 [.v 12,.k (.int .i64 9)]),oC 11 13,oU 14 (.ext 11 0),oU 15 (.ext 11 1),oC 5 14,oC 6 15] [0,1,5,6]) (.seq (.reg [ oC 16 6] [0,1,5,16]) (.cnd (.v 16) (.seq (.reg [ oC 18 1,oU 19 (.call 108 [.v 18,.k (.int .i64 9)]),oC 17 19,oU 20 (.ext 17 0),oU 21 (.ext 17 1),oC 7 20,oC 8 21] [0,1,5,7,8]) (.seq (.reg [ oC 22 8] [0,1,5,7,22]) (.cnd (.v 22) (.seq (.reg [ oC 23 5,oC 24 7,oU 25 (.ari .mul .i64 (.v 23) (.v 24)),oU 26 (.call 66 [.v 25]),oC 4 26] [4]) (.ret)) (.skip)))) (.skip)))) (.seq (.reg [ oC 27 0,oU 28 (.call 109 [.v 27]),oC 29 1,oU 30 (.call 109 [.v 29]),oU 9 (.alloc [.bool false,.sl 0 []]),oU 10 (.alloc [.bool false,.sl 0 []]),⟨none,.st 2 (.v 9) (.v 28),none⟩,⟨none,.st 2 (.v 10) (.v 30),none⟩] [9,10]) (.seq (.reg [ oU 31 (.fa 0 (.v 9)),oU 32 (.ld false 1 (.o 31 9)),oU 33 (.fa 0 (.v 10)),oU 34 (.ld false 1 (.o 33 10)),oU 35 (.eqb true (.v 32) (.v 34)),oU 36 (.fa 1 (.v 9)),oU 37 (.ld false 1 (.o 36 9)),oU 38 (.fa 1 (.v 10)),oU 39 (.ld false 1 (.o 38 10)),oU 40 (.call 114 [.v 37,.v 39]),oU 41 (.bld [.bool false,.sl 0 []] [(0,1,.v 35),(1,1,.v 40)]),oU 42 (.call 111 [.v 41]),oC 4 42] [4]) (.ret))))
def rs72 : List RV := [.t 4]
theorem chk72 : chkFn Tryz.prog Tryz.f72 2 pc72 rs72 = true := by kernel_rfl
theorem rule72 : Rl 72 2 pc72 rs72 := rlM Tryz.func72 chk72

/-- klippe/kink.dot -/
def pc74 : PC := .seq (.reg [ oU 2 (.bx 2 (.v 0)),oU 3 (.bx 2 (.v 1)),oU 4 (.cp (.k (.str [])))] [2,3]) (.seq (.reg [ oU 5 (.fa 0 (.v 2)),oU 6 (.ld false 1 (.o 5 2)),oU 7 (.fa 0 (.v 3)),oU 8 (.ld false 1 (.o 7 3)),oU 9 (.call 29 [.v 6,.v 8]),oU 10 (.fa 1 (.v 2)),oU 11 (.ld false 1 (.o 10 2)),oU 12 (.fa 1 (.v 3)),oU 13 (.ld false 1 (.o 12 3)),oU 14 (.call 29 [.v 11,.v 13]),oU 15 (.call 23 [.v 9,.v 14]),oC 4 15] [4]) (.ret))
def rs74 : List RV := [.t 4]
theorem chk74 : chkFn Tryz.prog Tryz.f74 2 pc74 rs74 = true := by kernel_rfl
theorem rule74 : Rl 74 2 pc74 rs74 := rlM Tryz.func74 chk74

/-- klippe/kink.minus -/
def pc75 : PC := .seq (.reg [ oU 2 (.bx 2 (.v 0)),oU 3 (.bx 2 (.v 1)),oU 4 (.alloc [.str [],.str []])] [2,3,4]) (.seq (.reg [ oU 5 (.ld true 2 (.v 2)),oU 6 (.ld true 2 (.v 3)),oU 7 (.call 83 [.v 5,.v 6,.k (.str [45,49])]),⟨none,.st 2 (.v 4) (.v 7),none⟩] [4]) (.ret))
def rs75 : List RV := [.c 4 true 2]
theorem chk75 : chkFn Tryz.prog Tryz.f75 2 pc75 rs75 = true := by kernel_rfl
theorem rule75 : Rl 75 2 pc75 rs75 := rlM Tryz.func75 chk75

/-- klippe/kink.within -/
def pc76 : PC := .seq (.reg [ oU 2 (.bx 4 (.v 0)),oU 4 (.cp (.k (.bool false)))] [1,2]) (.seq (.seq (.reg [ oU 7 (.ld true 4 (.v 2)),oC 8 1,oU 9 (.call 78 [.v 7,.v 8]),oU 10 (.len (.v 9)),oU 11 (.cp (.k (.int .i64 0)))] [9,10,11]) (.blk 0 (.loop (.seq (.reg [ oU 12 (.ci .lss (.v 11) (.v 10))] [9,10,11,12]) (.seq (.cnd (.v 12) (.skip) (.exit 0)) (.seq (.blk 1 (.seq (.reg [ oU 13 (.ia 1 (.v 9) (.v 11)),oU 14 (.ld false 1 (.o 13 9)),oC 6 14] [6,9,10,11]) (.seq (.reg [ oC 15 6,oU 16 (.call 35 [.v 15]),oU 17 (.ci .leq (.v 16) (.k (.int .i64 0)))] [9,10,11,17]) (.cnd (.v 17) (.seq (.reg [ oU 4 (.cp (.k (.bool false)))] [4]) (.ret)) (.skip))))) (.reg [ oU 18 (.ari .add .i64 (.v 11) (.k (.int .i64 1))),oC 11 18] [9,10,11]))))))) (.seq (.reg [ oU 4 (.cp (.k (.bool true)))] [4]) (.ret)))
def rs76 : List RV := [.t 4]
theorem chk76 : chkFn Tryz.prog Tryz.f76 2 pc76 rs76 = true := by kernel_rfl
theorem rule76 : Rl 76 2 pc76 rs76 := rlM Tryz.func76 chk76

/-- klippe/kink.bed -/
def pc77 : PC := .seq (.reg [ oU 2 (.bx 4 (.v 0)),oU 4 (.nil 25)] [1,2]) (.seq (.reg [ oU 5 (.nil 25)] [1,2,5]) (.seq (.seq (.reg [ oU 8 (.ld true 4 (.v 2)),oU 9 (.call 60 [.v 8]),oU 10 (.len (.v 9)),oU 11 (.cp (.k (.int .i64 0)))] [1,5,9,10,11]) (.blk 0 (.loop (.seq (.reg [ oU 12 (.ci .lss (.v 11) (.v 10))] [1,5,9,10,11,12]) (.seq (.cnd (.v 12) (.skip) (.exit 0)) (.seq (.blk 1 (.seq (.reg [ oU 13 (.ia 4 (.v 9) (.v 11)),oU 14 (.ld true 4 (.o 13 9)),oU 7 (.alloc [.str [],.str [],.str [],.str []]),⟨none,.st 4 (.v 7) (.v 14),none⟩] [1,5,7,9,10,11]) (.reg [ oU 15 (.tk 5),oU 16 (.fa 0 (.v 7)),oU 17 (.ld true 2 (.o 16 7)),oU 18 (.fa 2 (.v 7)),oU 19 (.ld true 2 (.o 18 7)),oC 20 1,oU 21 (.call 83 [.v 17,.v 19,.v 20]),oU 22 (.bldS 25 [.str [],.str []] 1 [(0,2,.v 21)]),oU 23 (.app 25 2 32 (.v 15) (.v 22)),oU 5 (.tk 23)] [1,5,9,10,11]))) (.reg [ oU 24 (.ari .add .i64 (.v 11) (.k (.int .i64 1))),oC 11 24] [1,5,9,10,11]))))))) (.seq (.reg [ oU 25 (.tk 5),oU 4 (.tk 25)] [4]) (.ret))))
def rs77 : List RV := [.t 4]
theorem chk77 : chkFn Tryz.prog Tryz.f77 2 pc77 rs77 = true := by kernel_rfl
theorem rule77 : Rl 77 2 pc77 rs77 := rlM Tryz.func77 chk77

/-- klippe/kink.lengths -/
def pc78 : PC := .seq (.reg [ oU 2 (.bx 4 (.v 0)),oU 4 (.nil 22)] [1,2]) (.seq (.reg [ oU 5 (.nil 22)] [1,2,5]) (.seq (.seq (.reg [ oU 8 (.ld true 4 (.v 2)),oU 9 (.call 62 [.v 8]),oU 10 (.len (.v 9)),oU 11 (.cp (.k (.int .i64 0)))] [1,2,5,9,10,11]) (.blk 0 (.loop (.seq (.reg [ oU 12 (.ci .lss (.v 11) (.v 10))] [1,2,5,9,10,11,12]) (.seq (.cnd (.v 12) (.skip) (.exit 0)) (.seq (.blk 1 (.seq (.reg [ oC 13 11,oU 14 (.ia 1 (.v 9) (.v 11)),oU 15 (.ld false 1 (.o 14 9)),oC 6 13,oC 7 15] [1,2,5,6,7,9,10,11]) (.reg [ oU 16 (.tk 5),oU 17 (.fa 3 (.v 2)),oU 18 (.ld false 1 (.o 17 2)),oC 19 6,oU 20 (.ia 1 (.v 18) (.v 19)),oU 21 (.ld false 1 (.v 20)),oC 22 7,oC 23 1,oU 24 (.call 29 [.v 22,.v 23]),oU 25 (.call 23 [.v 21,.v 24]),oU 26 (.bldS 22 [.str []] 1 [(0,1,.v 25)]),oU 27 (.app 22 1 16 (.v 16) (.v 26)),oU 5 (.tk 27)] [1,2,5,9,10,11]))) (.reg [ oU 28 (.ari .add .i64 (.v 11) (.k (.int .i64 1))),oC 11 28] [1,2,5,9,10,11]))))))) (.seq (.reg [ oU 29 (.tk 5),oU 4 (.tk 29)] [4]) (.ret))))
def rs78 : List RV := [.t 4]
theorem chk78 : chkFn Tryz.prog Tryz.f78 2 pc78 rs78 = true := by kernel_rfl
theorem rule78 : Rl 78 2 pc78 rs78 := rlM Tryz.func78 chk78

/-- klippe/rational.Sum -/
def pc79 : PC := .seq (.reg [ oU 2 (.cp (.k (.str [])))] [0]) (.seq (.reg [ oU 3 (.cp (.k (.str [48])))] [0,3]) (.seq (.seq (.reg [ oC 6 0,oU 7 (.len (.v 6)),oU 8 (.cp (.k (.int .i64 0)))] [3,6,7,8]) (.blk 0 (.loop (.seq (.reg [ oU 9 (.ci .lss (.v 8) (.v 7))] [3,6,7,8,9]) (.seq (.cnd (.v 9) (.skip) (.exit 0)) (.seq (.blk 1 (.seq (.reg [ oU 10 (.ia 1 (.v 6) (.v 8)),oU 11 (.ld false 1 (.v 10)),oC 5 11] [3,5,6,7,8]) (.reg [ oC 12 3,oC 13 5,oU 14 (.call 23 [.v 12,.v 13]),oC 3 14] [3,6,7,8]))) (.reg [ oU 15 (.ari .add .i64 (.v 8) (.k (.int .i64 1))),oC 8 15] [3,6,7,8]))))))) (.seq (.reg [ oC 16 3,oC 2 16] [2]) (.ret))))
def rs79 : List RV := [.t 2]
theorem chk79 : chkFn Tryz.prog Tryz.f79 1 pc79 rs79 = true := by kernel_rfl
theorem rule79 : Rl 79 1 pc79 rs79 := rlM Tryz.func79 chk79

/-- klippe/kink.checkHeights -/
def pc80 : PC := .seq (.reg [ oU 2 (.bx 4 (.v 0)),oU 4 (.cp (.k (.int .i64 0)))] [1,2]) (.seq (.seq (.reg [ oU 10 (.ld true 4 (.v 2)),oU 11 (.call 42 [.v 10]),oC 5 11] [1,2,5]) (.seq (.reg [ oC 12 5,oU 13 (.ci .neq (.v 12) (.k (.int .i64 0)))] [1,2,5,13]) (.cnd (.v 13) (.seq (.reg [ oC 14 5,oC 4 14] [4]) (.ret)) (.skip)))) (.seq (.seq (.reg [ oC 15 1,oU 16 (.len (.v 15)),oU 17 (.cp (.k (.int .i64 0)))] [1,2,15,16,17]) (.blk 0 (.loop (.seq (.reg [ oU 18 (.ci .lss (.v 17) (.v 16))] [1,2,15,16,17,18]) (.seq (.cnd (.v 18) (.skip) (.exit 0)) (.seq (.blk 1 (.seq (.reg [ oU 19 (.ia 1 (.v 15) (.v 17)),oU 20 (.ld false 1 (.v 19)),oC 7 20] [1,2,7,15,16,17]) (.seq (.reg [ oC 21 7,oU 22 (.call 54 [.v 21]),oU 23 (.ci .neq (.v 22) (.k (.int .i64 0)))] [1,2,15,16,17,23]) (.cnd (.v 23) (.seq (.reg [ oU 4 (.cp (.k (.int .i64 2)))] [4]) (.ret)) (.skip))))) (.reg [ oU 24 (.ari .add .i64 (.v 17) (.k (.int .i64 1))),oC 17 24] [1,2,15,16,17]))))))) (.seq (.seq (.reg [ oC 25 1,oU 26 (.len (.v 25)),oU 27 (.cp (.k (.int .i64 0)))] [2,25,26,27]) (.blk 2 (.loop (.seq (.reg [ oU 28 (.ci .lss (.v 27) (.v 26))] [2,25,26,27,28]) (.seq (.cnd (.v 28) (.skip) (.exit 2)) (.seq (.blk 3 (.seq (.reg [ oU 29 (.ia 1 (.v 25) (.v 27)),oU 30 (.ld false 1 (.v 29)),oC 9 30] [2,9,25,26,27]) (.seq (.reg [ oU 31 (.ld true 4 (.v 2)),oC 32 9,oU 33 (.call 76 [.v 31,.v 32]),oU 34 (.not (.v 33))] [2,25,26,27,34]) (.cnd (.v 34) (.seq (.reg [ oU 4 (.cp (.k (.int .i64 3)))] [4]) (.ret)) (.skip))))) (.reg [ oU 35 (.ari .add .i64 (.v 27) (.k (.int .i64 1))),oC 27 35] [2,25,26,27]))))))) (.seq (.reg [ oU 4 (.cp (.k (.int .i64 0)))] [4]) (.ret)))))
def rs80 : List RV := [.t 4]
theorem chk80 : chkFn Tryz.prog Tryz.f80 2 pc80 rs80 = true := by kernel_rfl
theorem rule80 : Rl 80 2 pc80 rs80 := rlM Tryz.func80 chk80

end Go.Proofs
