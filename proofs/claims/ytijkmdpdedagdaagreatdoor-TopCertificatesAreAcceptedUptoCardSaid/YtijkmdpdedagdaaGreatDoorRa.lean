/- The pure readings of functions of this seat, printed by program (pcfile.py). Own work. -/
import Derived.Test.YtijkmdpdedagdaaGreatDoorProg
import Derived.Test.YtijkmdpdedagdaaGreatDoorPj
import Derived.KernelRfl
namespace Go.Proofs
open Go Go.Pi Go.RowKit
set_option maxRecDepth 100000
set_option linter.unusedVariables false
set_option linter.unusedSimpArgs false
def oU (t : Nat) (k : K) : PO := ⟨some t, k, none⟩
def oC (t v : Nat) : PO := ⟨some t, .cp (.v v), none⟩
abbrev RuL (k n : Nat) (pc : PC) (rs : List RV) : Prop := ∀ {L : World → Prop} (_ : ∀ w w', L w → Below w.heap.size w w' → L w') {ds : List D} {r : D} (_ : aliasOf r = none) (_ : ds.length = n) (_ : ds.all (fun d => (aliasOf d).isNone) = true) (_ : wC (Con Tryz.prog L) pc (retQ rs r) (initE 0 ds)), Con Tryz.prog L k ds r
theorem rlM {k n : Nat} {pc : PC} {rs : List RV} {fn : Func} (hf : Tryz.prog.funcs[k]? = some fn) (hc : chkFn Tryz.prog fn n pc rs = true) : RuL k n pc rs := fun hL _ _ hr0 hlen hp h => con_chk hL hf hc hr0 hlen hp (wC_sound h)

/-- klippe/klippetop.TopCertificatesAreAccepted -/
def pc3 : PC := .seq (.reg [ oU 2 (.cp (.k (.bool false)))] [0]) (.seq (.seq (.reg [ oU 9 (.call 4 []),oU 10 (.not (.v 9)),oC 11 10,⟨some 12,.call 5 [],(some (11,false))⟩,⟨some 13,.not (.v 12),(some (11,false))⟩,oU 14 (.pick (.v 11) (.k (.bool true)) (.v 13)),oC 15 14,⟨some 16,.cp (.v 0),(some (15,false))⟩,⟨some 17,.len (.v 16),(some (15,false))⟩,⟨some 18,.ci .gtr (.v 17) (.k (.int .i64 8)),(some (15,false))⟩,oU 19 (.pick (.v 15) (.k (.bool true)) (.v 18))] [0,19]) (.cnd (.v 19) (.seq (.reg [ oU 20 (.call 4 []),oC 21 20,⟨some 22,.call 5 [],(some (21,true))⟩,oU 23 (.pick (.v 21) (.v 22) (.k (.bool false))),oC 2 23] [2]) (.ret)) (.skip))) (.seq (.reg [ oC 24 0,oU 25 (.call 6 [.v 24]),oU 3 (.tk 25)] [3]) (.seq (.reg [ oU 27 (.mv (.v 3)),oU 28 (.call 7 [.o 27 3]),oC 26 28,oU 29 (.ext 26 0),oU 30 (.ext 26 1),oU 31 (.ext 26 2),oC 4 29,oC 5 30,oC 6 31] [3,4,5,6]) (.seq (.seq (.reg [ oC 32 6,oU 33 (.ci .neq (.v 32) (.k (.int .i64 0)))] [3,4,5,33]) (.cnd (.v 33) (.seq (.reg [ oU 2 (.cp (.k (.bool false)))] [2]) (.ret)) (.skip))) (.seq (.reg [ oU 35 (.mv (.v 3)),oU 36 (.call 8 [.o 35 3]),oC 34 36,oU 37 (.ext 34 0),oU 38 (.ext 34 1),oC 7 37,oC 6 38] [3,4,5,6,7]) (.seq (.seq (.reg [ oC 39 6,oU 40 (.ci .neq (.v 39) (.k (.int .i64 0)))] [3,4,5,7,40]) (.cnd (.v 40) (.seq (.reg [ oU 2 (.cp (.k (.bool false)))] [2]) (.ret)) (.skip))) (.seq (.seq (.reg [ oC 41 5] [3,4,7,41]) (.cnd (.v 41) (.seq (.reg [ oU 42 (.mv (.v 3)),oC 43 4,oU 44 (.call 9 [.o 42 3,.v 43]),oC 45 44,⟨some 46,.mv (.v 3),(some (45,true))⟩,⟨some 47,.cp (.v 7),(some (45,true))⟩,⟨some 48,.call 10 [.o 46 3,.v 47],(some (45,true))⟩,⟨some 49,.not (.v 48),(some (45,true))⟩,oU 50 (.pick (.v 45) (.v 49) (.k (.bool false))),oC 2 50] [2]) (.ret)) (.skip))) (.seq (.reg [ oU 52 (.mv (.v 3)),oU 53 (.call 11 [.o 52 3]),oC 51 53,oU 54 (.ext 51 0),oU 55 (.ext 51 1),oC 8 54,oC 6 55] [3,6,8]) (.seq (.reg [ oC 56 6,oU 57 (.ci .eql (.v 56) (.k (.int .i64 0))),oC 58 57,⟨some 59,.mv (.v 3),(some (58,true))⟩,⟨some 60,.cp (.v 8),(some (58,true))⟩,⟨some 61,.call 10 [.o 59 3,.v 60],(some (58,true))⟩,oU 62 (.pick (.v 58) (.v 61) (.k (.bool false))),oC 2 62] [2]) (.ret))))))))))
def rs3 : List RV := [.t 2]
theorem chk3 : chkFn Tryz.prog Tryz.f3 1 pc3 rs3 = true := by kernel_rfl
theorem rule3 : RuL 3 1 pc3 rs3 := rlM Tryz.func3 chk3

/-- klippe/klippelaw20.Known -/
def pc4 : PC := .seq (.reg [ oU 0 (.cp (.k (.bool false)))] []) (.seq (.reg [ oU 1 (.call 12 []),oC 0 1] [0]) (.ret))
def rs4 : List RV := [.t 0]
theorem chk4 : chkFn Tryz.prog Tryz.f4 0 pc4 rs4 = true := by kernel_rfl
theorem rule4 : RuL 4 0 pc4 rs4 := rlM Tryz.func4 chk4

/-- klippe/klippetop.accepts44 -/
def pc5 : PC := .seq (.reg [ oU 0 (.cp (.k (.bool false)))] []) (.seq (.reg [ oU 1 (.call 13 [.k (.str [45,51,47,50])]),oC 2 1,⟨some 3,.call 13 [.k (.str [51,47,54])],(some (2,true))⟩,⟨some 4,.not (.v 3),(some (2,true))⟩,oU 5 (.pick (.v 2) (.v 4) (.k (.bool false))),oC 0 5] [0]) (.ret))
def rs5 : List RV := [.t 0]
theorem chk5 : chkFn Tryz.prog Tryz.f5 0 pc5 rs5 = true := by kernel_rfl
theorem rule5 : RuL 5 0 pc5 rs5 := rlM Tryz.func5 chk5

/-- klippe/klippelaw20.Make -/
def pc6 : PC := .seq (.reg [ oU 2 (.nil 42)] [0]) (.seq (.reg [ oU 3 (.nil 42)] [0,3]) (.seq (.seq (.reg [ oU 4 (.cp (.k (.int .i64 0)))] [0,3,4]) (.blk 0 (.loop (.seq (.seq (.reg [ oC 6 4,oC 7 0,oU 8 (.len (.v 7)),oU 9 (.ci .lss (.v 6) (.v 8)),oC 10 9,⟨some 11,.cp (.v 4),(some (10,true))⟩,⟨some 12,.ci .lss (.v 11) (.k (.int .i64 12)),(some (10,true))⟩,oU 13 (.pick (.v 10) (.v 12) (.k (.bool false)))] [0,3,4,13]) (.cnd (.v 13) (.skip) (.exit 0))) (.seq (.blk 1 (.seq (.reg [ oC 16 0,oC 17 4,oU 18 (.ia 3 (.v 16) (.v 17)),oU 19 (.iaA 3 1 (.v 18) (.k (.int .i64 2))),oU 20 (.ld false 1 (.o 19 18)),oU 21 (.ari .rem .u8 (.v 20) (.k (.int .u8 8))),oC 5 21] [0,3,4,5]) (.seq (.seq (.reg [ oC 22 5,oC 23 0,oC 24 4,oU 25 (.ia 3 (.v 23) (.v 24)),oU 26 (.iaA 3 1 (.v 25) (.k (.int .i64 1))),oU 27 (.ld false 1 (.o 26 25)),oU 28 (.ari .rem .u8 (.v 27) (.k (.int .u8 8))),oU 29 (.ci .eql (.v 22) (.v 28))] [0,3,4,5,29]) (.cnd (.v 29) (.reg [ oC 30 5,oU 31 (.ari .add .u8 (.v 30) (.k (.int .u8 1))),oC 5 31] [0,3,4,5]) (.skip))) (.reg [ oU 32 (.tk 3),oC 33 0,oC 34 4,oU 35 (.ia 3 (.v 33) (.v 34)),oU 36 (.iaA 3 1 (.v 35) (.k (.int .i64 0))),oU 37 (.ld false 1 (.o 36 35)),oU 38 (.ari .rem .u8 (.v 37) (.k (.int .u8 4))),oU 39 (.cvI .i64 (.v 38)),oU 40 (.ari .add .i64 (.k (.int .i64 1)) (.v 39)),oC 41 0,oC 42 4,oU 43 (.ia 3 (.v 41) (.v 42)),oU 44 (.iaA 3 1 (.v 43) (.k (.int .i64 1))),oU 45 (.ld false 1 (.o 44 43)),oU 46 (.call 14 [.v 45]),oC 47 5,oU 48 (.call 14 [.v 47]),oU 49 (.bld [.int .i64 0,.str [],.str []] [(0,1,.v 40),(1,1,.v 46),(2,1,.v 48)]),oU 50 (.bldS 42 [.int .i64 0,.str [],.str []] 1 [(0,3,.v 49)]),oU 51 (.app 42 3 40 (.v 32) (.v 50)),oU 3 (.tk 51)] [0,3,4])))) (.reg [ oC 14 4,oU 15 (.ari .add .i64 (.v 14) (.k (.int .i64 1))),oC 4 15] [0,3,4])))))) (.seq (.reg [ oU 52 (.tk 3),oU 2 (.tk 52)] [2]) (.ret))))
def rs6 : List RV := [.t 2]
theorem chk6 : chkFn Tryz.prog Tryz.f6 1 pc6 rs6 = true := by kernel_rfl
theorem rule6 : RuL 6 1 pc6 rs6 := rlM Tryz.func6 chk6

/-- klippe/succession.Units -/
def pc8 : PC := .seq (.reg [ oU 2 (.nil 9),oU 3 (.cp (.k (.int .i64 0)))] [0]) (.seq (.seq (.reg [ oC 5 0,oU 6 (.call 15 [.v 5]),oC 4 6] [0,4]) (.seq (.reg [ oC 7 4,oU 8 (.ci .neq (.v 7) (.k (.int .i64 0)))] [0,4,8]) (.cnd (.v 8) (.seq (.reg [ oC 9 4,oU 2 (.nil 9),oC 3 9] [2,3]) (.ret)) (.skip)))) (.seq (.reg [ oC 10 0,oU 11 (.call 18 [.v 10]),oU 2 (.tk 11),oU 3 (.cp (.k (.int .i64 0)))] [2,3]) (.ret)))
def rs8 : List RV := [.t 2, .t 3]
theorem chk8 : chkFn Tryz.prog Tryz.f8 1 pc8 rs8 = true := by kernel_rfl
theorem rule8 : RuL 8 1 pc8 rs8 := rlM Tryz.func8 chk8

/-- klippe/succession.Order -/
def pc11 : PC := .seq (.reg [ oU 2 (.nil 9),oU 3 (.cp (.k (.int .i64 0)))] [0]) (.seq (.seq (.reg [ oC 8 0,oU 9 (.call 15 [.v 8]),oC 4 9] [0,4]) (.seq (.reg [ oC 10 4,oU 11 (.ci .neq (.v 10) (.k (.int .i64 0)))] [0,4,11]) (.cnd (.v 11) (.seq (.reg [ oC 12 4,oU 2 (.nil 9),oC 3 12] [2,3]) (.ret)) (.skip)))) (.seq (.reg [ oC 13 0,oU 14 (.call 16 [.v 13]),oU 5 (.mv (.v 14))] [5]) (.seq (.reg [ oU 16 (.mv (.v 5)),oU 17 (.call 22 [.o 16 5]),oC 15 17,oU 18 (.ext 15 0),oU 19 (.ext 15 1),oC 6 18,oC 7 19] [5,6,7]) (.seq (.seq (.reg [ oC 20 7,oU 21 (.not (.v 20))] [5,6,21]) (.cnd (.v 21) (.seq (.reg [ oU 2 (.nil 9),oU 3 (.cp (.k (.int .i64 27)))] [2,3]) (.ret)) (.skip))) (.seq (.reg [ oU 22 (.mv (.v 5)),oC 23 6,oU 24 (.call 23 [.o 22 5,.v 23]),oU 2 (.tk 24),oU 3 (.cp (.k (.int .i64 0)))] [2,3]) (.ret))))))
def rs11 : List RV := [.t 2, .t 3]
theorem chk11 : chkFn Tryz.prog Tryz.f11 1 pc11 rs11 = true := by kernel_rfl
theorem rule11 : RuL 11 1 pc11 rs11 := rlM Tryz.func11 chk11

/-- klippe/klippelaw20.known -/
def pc12 : PC := .seq (.reg [ oU 0 (.cp (.k (.bool false)))] []) (.seq (.reg [ oU 10 (.call 24 [.k (.str [115,97,110,100,115,116,111,110,101,32,111,118,101,114,108,105,101,115,32,115,104,97,108,101])]),oC 9 10,oU 11 (.ext 9 0),oU 12 (.ext 9 1),oU 1 (.alloc [.int .i64 0,.str [],.str []]),⟨none,.st 3 (.v 1) (.v 11),none⟩,oC 2 12] [1,2]) (.seq (.reg [ oU 14 (.ld true 3 (.v 1)),oU 15 (.bldS 42 [.int .i64 0,.str [],.str []] 1 [(0,3,.v 14)]),oU 16 (.call 25 [.v 15]),oC 13 16,oU 17 (.ext 13 0),oU 18 (.ext 13 1),oC 3 17,oC 4 18] [2,3,4]) (.seq (.reg [ oU 20 (.bld [.int .i64 0,.str [],.str []] [(0,1,.k (.int .i64 4)),(1,1,.k (.str [98])),(2,1,.k (.str [97]))]),oU 21 (.bld [.int .i64 0,.str [],.str []] [(0,1,.k (.int .i64 2)),(1,1,.k (.str [99])),(2,1,.k (.str [97]))]),oU 22 (.bld [.int .i64 0,.str [],.str []] [(0,1,.k (.int .i64 4)),(1,1,.k (.str [97])),(2,1,.k (.str [98]))]),oU 23 (.bldS 42 [.int .i64 0,.str [],.str []] 3 [(0,3,.v 20),(3,3,.v 21),(6,3,.v 22)]),oU 24 (.call 26 [.v 23]),oC 19 24,oU 25 (.ext 19 0),oU 26 (.ext 19 1),oC 5 25,oC 6 26] [2,3,4,5,6]) (.seq (.reg [ oU 28 (.call 24 [.k (.str [97,32,111,118,101,114,108,105,101,115,32,97])]),oC 27 28,oU 29 (.ext 27 0),oU 30 (.ext 27 1),oU 7 (.alloc [.int .i64 0,.str [],.str []]),⟨none,.st 3 (.v 7) (.v 29),none⟩,oC 8 30] [2,3,4,5,6,8]) (.seq (.reg [ oC 31 2,oU 32 (.ci .eql (.v 31) (.k (.int .i64 0))),oC 33 32,⟨some 34,.cp (.v 4),(some (33,true))⟩,⟨some 35,.ci .eql (.v 34) (.k (.int .i64 0)),(some (33,true))⟩,oU 36 (.pick (.v 33) (.v 35) (.k (.bool false))),oC 37 36,⟨some 38,.cp (.v 3),(some (37,true))⟩,⟨some 39,.len (.v 38),(some (37,true))⟩,⟨some 40,.ci .eql (.v 39) (.k (.int .i64 1)),(some (37,true))⟩,oU 41 (.pick (.v 37) (.v 40) (.k (.bool false))),oC 42 41,⟨some 43,.cp (.v 3),(some (42,true))⟩,⟨some 44,.ia 2 (.v 43) (.k (.int .i64 0)),(some (42,true))⟩,⟨some 45,.ld true 2 (.v 44),(some (42,true))⟩,⟨some 46,.bld [.str [],.str []] [(0,1,.k (.str [115,104,97,108,101])),(1,1,.k (.str [115,97,110,100,115,116,111,110,101]))],(some (42,true))⟩,⟨some 47,.eq false [2,2] (.v 45) (.v 46),(some (42,true))⟩,oU 48 (.pick (.v 42) (.v 47) (.k (.bool false))),oC 49 48,⟨some 50,.cp (.v 6),(some (49,true))⟩,⟨some 51,.ci .eql (.v 50) (.k (.int .i64 0)),(some (49,true))⟩,oU 52 (.pick (.v 49) (.v 51) (.k (.bool false))),oC 53 52,⟨some 54,.cp (.v 5),(some (53,true))⟩,⟨some 55,.len (.v 54),(some (53,true))⟩,⟨some 56,.ci .eql (.v 55) (.k (.int .i64 2)),(some (53,true))⟩,oU 57 (.pick (.v 53) (.v 56) (.k (.bool false))),oC 58 57,⟨some 59,.cp (.v 5),(some (58,true))⟩,⟨some 60,.ia 3 (.v 59) (.k (.int .i64 1)),(some (58,true))⟩,⟨some 61,.ld true 3 (.v 60),(some (58,true))⟩,⟨some 62,.bld [.int .i64 0,.str [],.str []] [(0,1,.k (.int .i64 4)),(1,1,.k (.str [97])),(2,1,.k (.str [98]))],(some (58,true))⟩,⟨some 63,.eq false [1,2,2] (.v 61) (.v 62),(some (58,true))⟩,oU 64 (.pick (.v 58) (.v 63) (.k (.bool false))),oC 65 64,⟨some 66,.cp (.v 8),(some (65,true))⟩,⟨some 67,.ci .eql (.v 66) (.k (.int .i64 14)),(some (65,true))⟩,oU 68 (.pick (.v 65) (.v 67) (.k (.bool false))),oC 0 68] [0]) (.ret))))))
def rs12 : List RV := [.t 0]
theorem chk12 : chkFn Tryz.prog Tryz.f12 0 pc12 rs12 = true := by kernel_rfl
theorem rule12 : RuL 12 0 pc12 rs12 := rlM Tryz.func12 chk12

/-- klippe/checker.Number -/
def pc13 : PC := .seq (.reg [ oU 2 (.cp (.k (.bool false)))] [0]) (.seq (.reg [ oC 6 0,oU 7 (.call 27 [.v 6]),oC 5 7,oU 8 (.ext 5 0),oU 9 (.ext 5 1),oU 3 (.alloc [.bool false,.sl 0 [],.sl 0 []]),⟨none,.st 3 (.v 3) (.v 8),none⟩,oC 4 9] [4]) (.seq (.reg [ oC 10 4,oC 2 10] [2]) (.ret)))
def rs13 : List RV := [.t 2]
theorem chk13 : chkFn Tryz.prog Tryz.f13 1 pc13 rs13 = true := by kernel_rfl
theorem rule13 : RuL 13 1 pc13 rs13 := rlM Tryz.func13 chk13

/-- klippe/klippelaw20.Unit -/
def pc14 : PC := .seq (.reg [ oU 2 (.cp (.k (.str [])))] [0]) (.seq (.reg [ oC 3 0,oU 4 (.ari .rem .u8 (.v 3) (.k (.int .u8 8))),oU 5 (.ari .add .u8 (.k (.int .u8 97)) (.v 4)),oU 6 (.bldS 5 [.int .u8 0] 1 [(0,1,.v 5)]),oU 7 (.cvBS (.v 6)),oC 2 7] [2]) (.ret))
def rs14 : List RV := [.t 2]
theorem chk14 : chkFn Tryz.prog Tryz.f14 1 pc14 rs14 = true := by kernel_rfl
theorem rule14 : RuL 14 1 pc14 rs14 := rlM Tryz.func14 chk14

/-- klippe/succession.Check -/
def pc15 : PC := .seq (.reg [ oU 2 (.cp (.k (.int .i64 0)))] [0]) (.seq (.seq (.reg [ oC 6 0,oU 7 (.len (.v 6)),oU 8 (.ci .gtr (.v 7) (.k (.int .i64 200)))] [0,8]) (.cnd (.v 8) (.seq (.reg [ oU 2 (.cp (.k (.int .i64 4)))] [2]) (.ret)) (.skip))) (.seq (.seq (.reg [ oC 9 0,oU 10 (.len (.v 9)),oU 11 (.cp (.k (.int .i64 0)))] [0,9,10,11]) (.blk 0 (.loop (.seq (.reg [ oU 12 (.ci .lss (.v 11) (.v 10))] [0,9,10,11,12]) (.seq (.cnd (.v 12) (.skip) (.exit 0)) (.seq (.blk 1 (.seq (.reg [ oU 13 (.ia 3 (.v 9) (.v 11)),oU 14 (.ld true 3 (.v 13)),oU 4 (.alloc [.int .i64 0,.str [],.str []]),⟨none,.st 3 (.v 4) (.v 14),none⟩] [0,4,9,10,11]) (.seq (.reg [ oU 15 (.ld true 3 (.v 4)),oU 16 (.call 28 [.v 15]),oC 5 16] [0,5,9,10,11]) (.seq (.reg [ oC 17 5,oU 18 (.ci .neq (.v 17) (.k (.int .i64 0)))] [0,5,9,10,11,18]) (.cnd (.v 18) (.seq (.reg [ oC 19 5,oC 2 19] [2]) (.ret)) (.skip)))))) (.reg [ oU 20 (.ari .add .i64 (.v 11) (.k (.int .i64 1))),oC 11 20] [0,9,10,11]))))))) (.seq (.seq (.reg [ oC 21 0,oU 22 (.call 18 [.v 21]),oU 23 (.len (.v 22)),oU 24 (.ci .gtr (.v 23) (.k (.int .i64 60)))] [24]) (.cnd (.v 24) (.seq (.reg [ oU 2 (.cp (.k (.int .i64 4)))] [2]) (.ret)) (.skip))) (.seq (.reg [ oU 2 (.cp (.k (.int .i64 0)))] [2]) (.ret)))))
def rs15 : List RV := [.t 2]
theorem chk15 : chkFn Tryz.prog Tryz.f15 1 pc15 rs15 = true := by kernel_rfl
theorem rule15 : RuL 15 1 pc15 rs15 := rlM Tryz.func15 chk15

/-- slices.ContainsFunc[[]int,int] -/
def pc19 : PC := .seq (.reg [ oU 4 (.cp (.k (.bool false)))] [0,1]) (.seq (.reg [ oC 5 0,oC 6 1,oU 7 (.call 34 [.v 5,.v 6]),oU 8 (.ci .geq (.v 7) (.k (.int .i64 0))),oC 4 8] [4]) (.ret))
def rs19 : List RV := [.t 4]
theorem chk19 : chkFn Tryz.prog Tryz.f19 2 pc19 rs19 = true := by kernel_rfl
theorem rule19 : RuL 19 2 pc19 rs19 := rlM Tryz.func19 chk19

/-- klippe/checker.Cycle$1 -/
def pc20 : PC := .seq (.reg [ oU 3 (.cp (.k (.bool false)))] [0,1]) (.seq (.reg [ oU 4 (.ld false 1 (.v 1)),oC 5 0,oU 6 (.call 21 [.v 4,.v 5]),oU 7 (.not (.v 6)),oC 3 7] [3]) (.ret))
def rs20 : List RV := [.t 3]
theorem chk20 : chkFn Tryz.prog Tryz.f20 2 pc20 rs20 = true := by kernel_rfl
theorem rule20 : RuL 20 2 pc20 rs20 := rlM Tryz.func20 chk20

/-- klippe/checker.arc -/
def pc21 : PC := .seq (.reg [ oU 4 (.cp (.k (.bool false)))] [0,1]) (.seq (.reg [ oC 5 1,oU 6 (.ci .geq (.v 5) (.k (.int .i64 0))),oC 7 6,⟨some 8,.cp (.v 1),(some (7,true))⟩,⟨some 9,.cp (.v 0),(some (7,true))⟩,⟨some 10,.len (.v 9),(some (7,true))⟩,⟨some 11,.ci .lss (.v 8) (.v 10),(some (7,true))⟩,oU 12 (.pick (.v 7) (.v 11) (.k (.bool false))),oC 13 12,⟨some 14,.cp (.v 0),(some (13,true))⟩,⟨some 15,.cp (.v 1),(some (13,true))⟩,⟨some 16,.ia 3 (.v 14) (.v 15),(some (13,true))⟩,⟨some 17,.fa 0 (.v 16),(some (13,true))⟩,⟨some 18,.ld false 1 (.o 17 16),(some (13,true))⟩,⟨some 19,.ci .geq (.v 18) (.k (.int .i64 1)),(some (13,true))⟩,oU 20 (.pick (.v 13) (.v 19) (.k (.bool false))),oC 21 20,⟨some 22,.cp (.v 0),(some (21,true))⟩,⟨some 23,.cp (.v 1),(some (21,true))⟩,⟨some 24,.ia 3 (.v 22) (.v 23),(some (21,true))⟩,⟨some 25,.fa 0 (.v 24),(some (21,true))⟩,⟨some 26,.ld false 1 (.o 25 24),(some (21,true))⟩,⟨some 27,.ci .leq (.v 26) (.k (.int .i64 3)),(some (21,true))⟩,oU 28 (.pick (.v 21) (.v 27) (.k (.bool false))),oC 4 28] [4]) (.ret))
def rs21 : List RV := [.t 4]
theorem chk21 : chkFn Tryz.prog Tryz.f21 2 pc21 rs21 = true := by kernel_rfl
theorem rule21 : RuL 21 2 pc21 rs21 := rlM Tryz.func21 chk21

/-- (*klippe/succession.graph).name -/
def pc23 : PC := .seq (.reg [ oU 4 (.nil 9)] [0,1]) (.seq (.reg [ oU 5 (.nil 9)] [0,1,5]) (.seq (.seq (.reg [ oC 8 1,oU 9 (.len (.v 8)),oU 10 (.cp (.k (.int .i64 0)))] [0,5,8,9,10]) (.blk 0 (.loop (.seq (.reg [ oU 11 (.ci .lss (.v 10) (.v 9))] [0,5,8,9,10,11]) (.seq (.cnd (.v 11) (.skip) (.exit 0)) (.seq (.blk 1 (.seq (.reg [ oU 12 (.ia 1 (.v 8) (.v 10)),oU 13 (.ld false 1 (.v 12)),oC 7 13] [0,5,7,8,9,10]) (.reg [ oU 14 (.tk 5),oU 15 (.mv (.v 0)),oU 16 (.fa 0 (.o 15 0)),oU 17 (.fa 0 (.v 16)),oU 18 (.ld false 1 (.o 17 16)),oC 19 7,oU 20 (.ia 1 (.v 18) (.v 19)),oU 21 (.ld false 1 (.v 20)),oU 22 (.bldS 9 [.str []] 1 [(0,1,.v 21)]),oU 23 (.app 9 1 16 (.v 14) (.v 22)),oU 5 (.tk 23)] [0,5,8,9,10]))) (.reg [ oU 24 (.ari .add .i64 (.v 10) (.k (.int .i64 1))),oC 10 24] [0,5,8,9,10]))))))) (.seq (.reg [ oU 25 (.tk 5),oU 4 (.tk 25)] [4]) (.ret))))
def rs23 : List RV := [.t 4]
theorem chk23 : chkFn Tryz.prog Tryz.f23 2 pc23 rs23 = true := by kernel_rfl
theorem rule23 : RuL 23 2 pc23 rs23 := rlM Tryz.func23 chk23

/-- klippe/relation.Parse -/
def pc24 : PC := .seq (.reg [ oU 2 (.alloc [.int .i64 0,.str [],.str []]),oU 3 (.cp (.k (.int .i64 0)))] [0,2]) (.seq (.reg [ oC 8 0,oU 9 (.call 39 [.v 8,.k (.str [32])]),oU 4 (.tk 9)] [2,4]) (.seq (.seq (.reg [ oU 10 (.mv (.v 4)),oU 11 (.len (.o 10 4)),oU 12 (.ci .neq (.v 11) (.k (.int .i64 3))),oC 13 12,⟨some 14,.mv (.v 4),(some (13,false))⟩,⟨some 15,.call 40 [.o 14 4,.k (.str [])],(some (13,false))⟩,oU 16 (.pick (.v 13) (.k (.bool true)) (.v 15))] [2,4,16]) (.cnd (.v 16) (.seq (.reg [ oU 17 (.bld [.int .i64 0,.str [],.str []] []),⟨none,.st 3 (.v 2) (.v 17),none⟩,oU 3 (.cp (.k (.int .i64 15)))] [2,3]) (.ret)) (.skip))) (.seq (.reg [ oU 18 (.call 41 []),oU 5 (.alloc [.str [],.str [],.str [],.str []]),⟨none,.st 4 (.v 5) (.v 18),none⟩] [2,4,5]) (.seq (.reg [ oU 19 (.slA 4 1 (.v 5)),oU 20 (.mv (.v 4)),oU 21 (.ia 1 (.o 20 4) (.k (.int .i64 1))),oU 22 (.ld false 1 (.o 21 4)),oU 23 (.call 42 [.v 19,.v 22]),oU 24 (.ari .add .i64 (.k (.int .i64 1)) (.v 23)),oU 25 (.mv (.v 4)),oU 26 (.ia 1 (.o 25 4) (.k (.int .i64 0))),oU 27 (.ld false 1 (.o 26 4)),oU 28 (.mv (.v 4)),oU 29 (.ia 1 (.o 28 4) (.k (.int .i64 2))),oU 30 (.ld false 1 (.o 29 4)),oU 31 (.bld [.int .i64 0,.str [],.str []] [(0,1,.v 24),(1,1,.v 27),(2,1,.v 30)]),oU 6 (.alloc [.int .i64 0,.str [],.str []]),⟨none,.st 3 (.v 6) (.v 31),none⟩] [2,6]) (.seq (.seq (.reg [ oU 32 (.fa 0 (.v 6)),oU 33 (.ld false 1 (.o 32 6)),oU 34 (.ci .eql (.v 33) (.k (.int .i64 0)))] [2,6,34]) (.cnd (.v 34) (.seq (.reg [ oU 35 (.bld [.int .i64 0,.str [],.str []] []),⟨none,.st 3 (.v 2) (.v 35),none⟩,oU 3 (.cp (.k (.int .i64 15)))] [2,3]) (.ret)) (.skip))) (.seq (.seq (.reg [ oU 36 (.ld true 3 (.v 6)),oU 37 (.call 28 [.v 36]),oC 7 37] [2,6,7]) (.seq (.reg [ oC 38 7,oU 39 (.ci .neq (.v 38) (.k (.int .i64 0)))] [2,6,7,39]) (.cnd (.v 39) (.seq (.reg [ oU 40 (.bld [.int .i64 0,.str [],.str []] []),oC 41 7,⟨none,.st 3 (.v 2) (.v 40),none⟩,oC 3 41] [2,3]) (.ret)) (.skip)))) (.seq (.reg [ oU 42 (.ld true 3 (.v 6)),⟨none,.st 3 (.v 2) (.v 42),none⟩,oU 3 (.cp (.k (.int .i64 0)))] [2,3]) (.ret))))))))
def rs24 : List RV := [.c 2 true 3, .t 3]
theorem chk24 : chkFn Tryz.prog Tryz.f24 1 pc24 rs24 = true := by kernel_rfl
theorem rule24 : RuL 24 1 pc24 rs24 := rlM Tryz.func24 chk24

/-- klippe/relation.Arcs -/
def pc25 : PC := .seq (.reg [ oU 2 (.nil 65),oU 3 (.cp (.k (.int .i64 0)))] [0]) (.seq (.seq (.reg [ oC 8 0,oU 9 (.call 43 [.v 8]),oC 4 9] [0,4]) (.seq (.reg [ oC 10 4,oU 11 (.ci .neq (.v 10) (.k (.int .i64 0)))] [0,4,11]) (.cnd (.v 11) (.seq (.reg [ oC 12 4,oU 2 (.nil 65),oC 3 12] [2,3]) (.ret)) (.skip)))) (.seq (.reg [ oU 5 (.nil 65)] [0,5]) (.seq (.seq (.reg [ oC 13 0,oU 14 (.len (.v 13)),oU 15 (.cp (.k (.int .i64 0)))] [5,13,14,15]) (.blk 0 (.loop (.seq (.reg [ oU 16 (.ci .lss (.v 15) (.v 14))] [5,13,14,15,16]) (.seq (.cnd (.v 16) (.skip) (.exit 0)) (.seq (.blk 1 (.seq (.reg [ oU 17 (.ia 3 (.v 13) (.v 15)),oU 18 (.ld true 3 (.v 17)),oU 7 (.alloc [.int .i64 0,.str [],.str []]),⟨none,.st 3 (.v 7) (.v 18),none⟩] [5,7,13,14,15]) (.seq (.reg [ oU 19 (.fa 0 (.v 7)),oU 20 (.ld false 1 (.o 19 7)),oU 21 (.ci .neq (.v 20) (.k (.int .i64 4)))] [5,7,13,14,15,21]) (.cnd (.v 21) (.reg [ oU 22 (.tk 5),oU 23 (.fa 2 (.v 7)),oU 24 (.ld false 1 (.o 23 7)),oU 25 (.fa 1 (.v 7)),oU 26 (.ld false 1 (.o 25 7)),oU 27 (.bld [.str [],.str []] [(0,1,.v 24),(1,1,.v 26)]),oU 28 (.bldS 65 [.str [],.str []] 1 [(0,2,.v 27)]),oU 29 (.app 65 2 32 (.v 22) (.v 28)),oU 5 (.tk 29)] [5,13,14,15]) (.skip))))) (.reg [ oU 30 (.ari .add .i64 (.v 15) (.k (.int .i64 1))),oC 15 30] [5,13,14,15]))))))) (.seq (.reg [ oU 31 (.mv (.v 5)),oU 32 (.call 44 [.o 31 5,.k (.clo 45 [])])] [5]) (.seq (.reg [ oU 33 (.tk 5),oU 34 (.call 48 [.v 33]),oU 2 (.tk 34),oU 3 (.cp (.k (.int .i64 0)))] [2,3]) (.ret))))))
def rs25 : List RV := [.t 2, .t 3]
theorem chk25 : chkFn Tryz.prog Tryz.f25 1 pc25 rs25 = true := by kernel_rfl
theorem rule25 : RuL 25 1 pc25 rs25 := rlM Tryz.func25 chk25

/-- klippe/checker.read -/
def pc27 : PC := .seq (.reg [ oU 2 (.alloc [.bool false,.sl 0 [],.sl 0 []]),oU 3 (.cp (.k (.bool false)))] [0,2]) (.seq (.reg [ oC 13 0,oU 14 (.call 53 [.v 13,.k (.str [45])]),oC 12 14,oU 15 (.ext 12 0),oU 16 (.ext 12 1),oC 4 15,oC 5 16] [2,4,5]) (.seq (.reg [ oC 18 4,oU 19 (.call 54 [.v 18,.k (.str [47])]),oC 17 19,oU 20 (.ext 17 0),oU 21 (.ext 17 1),oU 22 (.ext 17 2),oC 6 20,oC 7 21,oC 8 22] [2,5,6,7,8]) (.seq (.reg [ oC 24 6,oU 25 (.call 55 [.v 24]),oC 23 25,oU 26 (.ext 23 0),oU 27 (.ext 23 1),oC 9 26,oC 10 27] [2,5,7,8,9,10]) (.seq (.seq (.reg [ oC 28 10,oU 29 (.not (.v 28)),oC 30 29,⟨some 31,.cp (.v 5),(some (30,false))⟩,⟨some 32,.cp (.v 31),(some (30,false))⟩,⟨some 33,.cp (.v 9),(some (32,true))⟩,⟨some 34,.len (.v 33),(some (32,true))⟩,⟨some 35,.ci .eql (.v 34) (.k (.int .i64 0)),(some (32,true))⟩,⟨some 36,.pick (.v 32) (.v 35) (.k (.bool false)),(some (30,false))⟩,oU 37 (.pick (.v 30) (.k (.bool true)) (.v 36))] [2,5,7,8,9,37]) (.cnd (.v 37) (.seq (.reg [ oU 38 (.bld [.bool false,.sl 0 [],.sl 0 []] []),⟨none,.st 3 (.v 2) (.v 38),none⟩,oU 3 (.cp (.k (.bool false)))] [2,3]) (.ret)) (.skip))) (.seq (.reg [ oU 39 (.bldS 110 [.int .u32 0] 1 [(0,1,.k (.int .u32 1))]),oU 11 (.tk 39)] [2,5,7,8,9,11]) (.seq (.seq (.reg [ oC 40 8] [2,5,7,9,11,40]) (.cnd (.v 40) (.seq (.reg [ oC 42 7,oU 43 (.call 55 [.v 42]),oC 41 43,oU 44 (.ext 41 0),oU 45 (.ext 41 1),oC 11 44,oC 10 45] [2,5,9,10,11]) (.seq (.reg [ oC 46 10,oU 47 (.not (.v 46)),oC 48 47,⟨some 49,.mv (.v 11),(some (48,false))⟩,⟨some 50,.bldS 110 [.int .u32 0] 1 [(0,1,.k (.int .u32 1))],(some (48,false))⟩,⟨some 51,.call 56 [.o 49 11,.v 50],(some (48,false))⟩,⟨some 52,.ci .leq (.v 51) (.k (.int .i64 0)),(some (48,false))⟩,oU 53 (.pick (.v 48) (.k (.bool true)) (.v 52)),oC 54 53,⟨some 55,.cp (.v 9),(some (54,false))⟩,⟨some 56,.len (.v 55),(some (54,false))⟩,⟨some 57,.ci .eql (.v 56) (.k (.int .i64 0)),(some (54,false))⟩,oU 58 (.pick (.v 54) (.k (.bool true)) (.v 57)),oC 59 58,⟨some 60,.cp (.v 9),(some (59,false))⟩,⟨some 61,.mv (.v 11),(some (59,false))⟩,⟨some 62,.call 57 [.v 60,.o 61 11],(some (59,false))⟩,⟨some 63,.bldS 110 [.int .u32 0] 1 [(0,1,.k (.int .u32 1))],(some (59,false))⟩,⟨some 64,.call 56 [.v 62,.v 63],(some (59,false))⟩,⟨some 65,.ci .neq (.v 64) (.k (.int .i64 0)),(some (59,false))⟩,oU 66 (.pick (.v 59) (.k (.bool true)) (.v 65))] [2,5,9,11,66]) (.cnd (.v 66) (.seq (.reg [ oU 67 (.bld [.bool false,.sl 0 [],.sl 0 []] []),⟨none,.st 3 (.v 2) (.v 67),none⟩,oU 3 (.cp (.k (.bool false)))] [2,3]) (.ret)) (.skip)))) (.skip))) (.seq (.reg [ oC 68 5,oC 69 9,oU 70 (.sh (.v 11)),oU 71 (.bld [.bool false,.sl 0 [],.sl 0 []] [(0,1,.v 68),(1,1,.v 69),(2,1,.v 70)]),⟨none,.st 3 (.v 2) (.v 71),none⟩,oU 3 (.cp (.k (.bool true)))] [2,3]) (.ret))))))))
def rs27 : List RV := [.c 2 true 3, .t 3]
theorem chk27 : chkFn Tryz.prog Tryz.f27 1 pc27 rs27 = true := by kernel_rfl
theorem rule27 : RuL 27 1 pc27 rs27 := rlM Tryz.func27 chk27

/-- klippe/relation.Check -/
def pc28 : PC := .seq (.reg [ oU 1 (.bx 3 (.v 0)),oU 2 (.cp (.k (.int .i64 0)))] [1]) (.seq (.blk 0 (.seq (.reg [ oU 4 (.fa 0 (.v 1)),oU 5 (.ld false 1 (.o 4 1)),oU 6 (.ci .lss (.v 5) (.k (.int .i64 1))),oC 7 6,⟨some 8,.fa 0 (.v 1),(some (7,false))⟩,⟨some 9,.ld false 1 (.o 8 1),(some (7,false))⟩,⟨some 10,.ci .gtr (.v 9) (.k (.int .i64 4)),(some (7,false))⟩,oU 11 (.pick (.v 7) (.k (.bool true)) (.v 10)),oC 3 11] [1,3]) (.cnd (.v 3) (.seq (.reg [ oU 2 (.cp (.k (.int .i64 12)))] [2]) (.ret)) (.seq (.reg [ oU 13 (.fa 1 (.v 1)),oU 14 (.ld false 1 (.o 13 1)),oU 15 (.call 58 [.v 14]),oU 16 (.not (.v 15)),oC 17 16,⟨some 18,.fa 2 (.v 1),(some (17,false))⟩,⟨some 19,.ld false 1 (.o 18 1),(some (17,false))⟩,⟨some 20,.call 58 [.v 19],(some (17,false))⟩,⟨some 21,.not (.v 20),(some (17,false))⟩,oU 22 (.pick (.v 17) (.k (.bool true)) (.v 21)),oC 12 22] [1,12]) (.cnd (.v 12) (.seq (.reg [ oU 2 (.cp (.k (.int .i64 8)))] [2]) (.ret)) (.seq (.reg [ oU 24 (.fa 1 (.v 1)),oU 25 (.ld false 1 (.o 24 1)),oU 26 (.fa 2 (.v 1)),oU 27 (.ld false 1 (.o 26 1)),oU 28 (.sc .eql (.v 25) (.v 27)),oC 23 28] [23]) (.cnd (.v 23) (.seq (.reg [ oU 2 (.cp (.k (.int .i64 14)))] [2]) (.ret)) (.skip)))))))) (.seq (.reg [ oU 2 (.cp (.k (.int .i64 0)))] [2]) (.ret)))
def rs28 : List RV := [.t 2]
theorem chk28 : chkFn Tryz.prog Tryz.f28 1 pc28 rs28 = true := by kernel_rfl
theorem rule28 : RuL 28 1 pc28 rs28 := rlM Tryz.func28 chk28

/-- (*klippe/succession.graph).distances -/
def pc29 : PC := .seq (.reg [ oU 6 (.nil 3)] [0,1,2]) (.seq (.reg [ oU 11 (.bldS 3 [.int .i64 0] 1 [(0,1,.k (.int .i64 (-1)))]),oU 12 (.mv (.v 0)),oU 13 (.fa 0 (.o 12 0)),oU 14 (.fa 0 (.v 13)),oU 15 (.ld false 1 (.o 14 13)),oU 16 (.len (.v 15)),oU 17 (.call 59 [.v 11,.v 16]),oU 7 (.tk 17)] [0,1,2,7]) (.seq (.reg [ oU 18 (.mv (.v 7)),oC 19 1,oU 20 (.ia 1 (.o 18 7) (.v 19)),⟨none,.st 1 (.o 20 7) (.k (.int .i64 0)),none⟩] [0,2,7]) (.seq (.seq (.reg [ oU 8 (.cp (.k (.bool true)))] [0,2,7,8]) (.blk 0 (.loop (.seq (.seq (.reg [ oC 21 8] [0,2,7,21]) (.cnd (.v 21) (.skip) (.exit 0))) (.blk 1 (.seq (.reg [ oU 8 (.cp (.k (.bool false)))] [0,2,7,8]) (.seq (.reg [ oU 22 (.mv (.v 0)),oU 23 (.fa 0 (.o 22 0)),oU 24 (.fa 2 (.v 23)),oU 25 (.ld false 1 (.o 24 23)),oU 26 (.len (.v 25)),oU 27 (.cp (.k (.int .i64 0)))] [0,2,7,8,25,26,27]) (.blk 2 (.loop (.seq (.reg [ oU 28 (.ci .lss (.v 27) (.v 26))] [0,2,7,8,25,26,27,28]) (.seq (.cnd (.v 28) (.skip) (.exit 2)) (.seq (.blk 3 (.seq (.reg [ oU 29 (.ia 3 (.v 25) (.v 27)),oU 30 (.ld true 3 (.v 29)),oU 10 (.alloc [.int .i64 0,.int .i64 0,.int .i64 0]),⟨none,.st 3 (.v 10) (.v 30),none⟩] [0,2,7,8,10,25,26,27]) (.seq (.reg [ oU 31 (.fa 0 (.v 10)),oU 32 (.ld false 1 (.o 31 10)),oC 33 2,oU 34 (.ci .gtr (.v 32) (.v 33)),oC 35 34,⟨some 36,.mv (.v 7),(some (35,true))⟩,⟨some 37,.fa 2 (.v 10),(some (35,true))⟩,⟨some 38,.ld false 1 (.o 37 10),(some (35,true))⟩,⟨some 39,.ia 1 (.o 36 7) (.v 38),(some (35,true))⟩,⟨some 40,.ld false 1 (.o 39 7),(some (35,true))⟩,⟨some 41,.ci .geq (.v 40) (.k (.int .i64 0)),(some (35,true))⟩,oU 42 (.pick (.v 35) (.v 41) (.k (.bool false))),oC 43 42,⟨some 44,.mv (.v 7),(some (43,true))⟩,⟨some 45,.fa 1 (.v 10),(some (43,true))⟩,⟨some 46,.ld false 1 (.o 45 10),(some (43,true))⟩,⟨some 47,.ia 1 (.o 44 7) (.v 46),(some (43,true))⟩,⟨some 48,.ld false 1 (.o 47 7),(some (43,true))⟩,⟨some 49,.ci .lss (.v 48) (.k (.int .i64 0)),(some (43,true))⟩,⟨some 50,.cp (.v 49),(some (43,true))⟩,⟨some 51,.mv (.v 7),(some (50,false))⟩,⟨some 52,.fa 1 (.v 10),(some (50,false))⟩,⟨some 53,.ld false 1 (.o 52 10),(some (50,false))⟩,⟨some 54,.ia 1 (.o 51 7) (.v 53),(some (50,false))⟩,⟨some 55,.ld false 1 (.o 54 7),(some (50,false))⟩,⟨some 56,.mv (.v 7),(some (50,false))⟩,⟨some 57,.fa 2 (.v 10),(some (50,false))⟩,⟨some 58,.ld false 1 (.o 57 10),(some (50,false))⟩,⟨some 59,.ia 1 (.o 56 7) (.v 58),(some (50,false))⟩,⟨some 60,.ld false 1 (.o 59 7),(some (50,false))⟩,⟨some 61,.ari .add .i64 (.v 60) (.k (.int .i64 1)),(some (50,false))⟩,⟨some 62,.ci .gtr (.v 55) (.v 61),(some (50,false))⟩,⟨some 63,.pick (.v 50) (.k (.bool true)) (.v 62),(some (43,true))⟩,oU 64 (.pick (.v 43) (.v 63) (.k (.bool false)))] [0,2,7,8,10,25,26,27,64]) (.cnd (.v 64) (.reg [ oU 65 (.mv (.v 7)),oU 66 (.fa 1 (.v 10)),oU 67 (.ld false 1 (.o 66 10)),oU 68 (.mv (.v 7)),oU 69 (.fa 2 (.v 10)),oU 70 (.ld false 1 (.o 69 10)),oU 71 (.ia 1 (.o 68 7) (.v 70)),oU 72 (.ld false 1 (.o 71 7)),oU 73 (.ari .add .i64 (.v 72) (.k (.int .i64 1))),oU 74 (.ia 1 (.o 65 7) (.v 67)),⟨none,.st 1 (.o 74 7) (.v 73),none⟩,oU 8 (.cp (.k (.bool true)))] [0,2,7,8,25,26,27]) (.skip))))) (.reg [ oU 75 (.ari .add .i64 (.v 27) (.k (.int .i64 1))),oC 27 75] [0,2,7,8,25,26,27]))))))))))))) (.seq (.reg [ oU 76 (.tk 7),oU 6 (.tk 76)] [6]) (.ret)))))
def rs29 : List RV := [.t 6]
theorem chk29 : chkFn Tryz.prog Tryz.f29 3 pc29 rs29 = true := by kernel_rfl
theorem rule29 : RuL 29 3 pc29 rs29 := rlM Tryz.func29 chk29

/-- slices.IndexFunc[[]klippe/succession.arc,klippe/succession.arc] -/
def pc30 : PC := .seq (.reg [ oU 4 (.cp (.k (.int .i64 0)))] [0,1]) (.seq (.seq (.reg [ oC 6 0,oU 7 (.len (.v 6)),oU 8 (.cp (.k (.int .i64 0)))] [0,1,7,8]) (.blk 0 (.loop (.seq (.reg [ oU 9 (.ci .lss (.v 8) (.v 7))] [0,1,7,8,9]) (.seq (.cnd (.v 9) (.skip) (.exit 0)) (.seq (.blk 1 (.seq (.reg [ oC 10 8,oC 5 10] [0,1,5,7,8]) (.seq (.reg [ oC 11 1,oC 12 0,oC 13 5,oU 14 (.ia 3 (.v 12) (.v 13)),oU 15 (.ld true 3 (.v 14)),oU 16 (.callV 11 [.v 15])] [0,1,5,7,8,16]) (.cnd (.v 16) (.seq (.reg [ oC 17 5,oC 4 17] [4]) (.ret)) (.skip))))) (.reg [ oU 18 (.ari .add .i64 (.v 8) (.k (.int .i64 1))),oC 8 18] [0,1,7,8]))))))) (.seq (.reg [ oU 4 (.cp (.k (.int .i64 (-1))))] [4]) (.ret)))
def rs30 : List RV := [.t 4]
theorem chk30 : chkFn Tryz.prog Tryz.f30 2 pc30 rs30 = true := by kernel_rfl
theorem rule30 : RuL 30 2 pc30 rs30 := rlM Tryz.func30 chk30

/-- (*klippe/succession.graph).cycle$1 -/
def pc31 : PC := .seq (.reg [ oU 4 (.bx 3 (.v 0)),oU 5 (.cp (.k (.bool false)))] [1,2,3,4]) (.seq (.reg [ oU 6 (.fa 0 (.v 4)),oU 7 (.ld false 1 (.o 6 4)),oU 8 (.fa 0 (.v 1)),oU 9 (.ld false 1 (.v 8)),oU 10 (.ci .gtr (.v 7) (.v 9)),oC 11 10,⟨some 12,.ld false 1 (.v 2),(some (11,true))⟩,⟨some 13,.fa 2 (.v 4),(some (11,true))⟩,⟨some 14,.ld false 1 (.o 13 4),(some (11,true))⟩,⟨some 15,.ia 1 (.v 12) (.v 14),(some (11,true))⟩,⟨some 16,.ld false 1 (.v 15),(some (11,true))⟩,⟨some 17,.ld false 1 (.v 2),(some (11,true))⟩,⟨some 18,.ld false 1 (.v 3),(some (11,true))⟩,⟨some 19,.ia 1 (.v 17) (.v 18),(some (11,true))⟩,⟨some 20,.ld false 1 (.v 19),(some (11,true))⟩,⟨some 21,.ari .sub .i64 (.v 20) (.k (.int .i64 1)),(some (11,true))⟩,⟨some 22,.ci .eql (.v 16) (.v 21),(some (11,true))⟩,oU 23 (.pick (.v 11) (.v 22) (.k (.bool false))),oC 5 23] [5]) (.ret))
def rs31 : List RV := [.t 5]
theorem chk31 : chkFn Tryz.prog Tryz.f31 4 pc31 rs31 = true := by kernel_rfl
theorem rule31 : RuL 31 4 pc31 rs31 := rlM Tryz.func31 chk31

/-- slices.IndexFunc[[]int,int] -/
def pc34 : PC := .seq (.reg [ oU 4 (.cp (.k (.int .i64 0)))] [0,1]) (.seq (.seq (.reg [ oC 6 0,oU 7 (.len (.v 6)),oU 8 (.cp (.k (.int .i64 0)))] [0,1,7,8]) (.blk 0 (.loop (.seq (.reg [ oU 9 (.ci .lss (.v 8) (.v 7))] [0,1,7,8,9]) (.seq (.cnd (.v 9) (.skip) (.exit 0)) (.seq (.blk 1 (.seq (.reg [ oC 10 8,oC 5 10] [0,1,5,7,8]) (.seq (.reg [ oC 11 1,oC 12 0,oC 13 5,oU 14 (.ia 1 (.v 12) (.v 13)),oU 15 (.ld false 1 (.v 14)),oU 16 (.callV 11 [.v 15])] [0,1,5,7,8,16]) (.cnd (.v 16) (.seq (.reg [ oC 17 5,oC 4 17] [4]) (.ret)) (.skip))))) (.reg [ oU 18 (.ari .add .i64 (.v 8) (.k (.int .i64 1))),oC 8 18] [0,1,7,8]))))))) (.seq (.reg [ oU 4 (.cp (.k (.int .i64 (-1))))] [4]) (.ret)))
def rs34 : List RV := [.t 4]
theorem chk34 : chkFn Tryz.prog Tryz.f34 2 pc34 rs34 = true := by kernel_rfl
theorem rule34 : RuL 34 2 pc34 rs34 := rlM Tryz.func34 chk34

/-- (*klippe/succession.graph).before -/
def pc35 : PC := .seq (.reg [ oU 2 (.nil 3)] [0]) (.seq (.reg [ oU 6 (.mv (.v 0)),oU 7 (.fa 0 (.o 6 0)),oU 8 (.fa 0 (.v 7)),oU 9 (.ld false 1 (.o 8 7)),oU 10 (.len (.v 9)),oU 11 (.mkS 3 [.int .i64 0] 8 (.v 10) (.v 10)),oU 3 (.tk 11)] [0,3]) (.seq (.seq (.reg [ oU 12 (.mv (.v 0)),oU 13 (.fa 0 (.o 12 0)),oU 14 (.fa 2 (.v 13)),oU 15 (.ld false 1 (.o 14 13)),oU 16 (.len (.v 15)),oU 17 (.cp (.k (.int .i64 0)))] [3,15,16,17]) (.blk 0 (.loop (.seq (.reg [ oU 18 (.ci .lss (.v 17) (.v 16))] [3,15,16,17,18]) (.seq (.cnd (.v 18) (.skip) (.exit 0)) (.seq (.blk 1 (.seq (.reg [ oU 19 (.ia 3 (.v 15) (.v 17)),oU 20 (.ld true 3 (.v 19)),oU 5 (.alloc [.int .i64 0,.int .i64 0,.int .i64 0]),⟨none,.st 3 (.v 5) (.v 20),none⟩] [3,5,15,16,17]) (.reg [ oU 21 (.mv (.v 3)),oU 22 (.fa 2 (.v 5)),oU 23 (.ld false 1 (.o 22 5)),oU 24 (.ia 1 (.o 21 3) (.v 23)),oU 25 (.ld false 1 (.o 24 3)),oU 26 (.ari .add .i64 (.v 25) (.k (.int .i64 1))),oU 27 (.ia 1 (.o 21 3) (.v 23)),⟨none,.st 1 (.o 27 3) (.v 26),none⟩] [3,15,16,17]))) (.reg [ oU 28 (.ari .add .i64 (.v 17) (.k (.int .i64 1))),oC 17 28] [3,15,16,17]))))))) (.seq (.reg [ oU 29 (.tk 3),oU 2 (.tk 29)] [2]) (.ret))))
def rs35 : List RV := [.t 2]
theorem chk35 : chkFn Tryz.prog Tryz.f35 1 pc35 rs35 = true := by kernel_rfl
theorem rule35 : RuL 35 1 pc35 rs35 := rlM Tryz.func35 chk35

/-- strings.Split -/
def pc39 : PC := .seq (.reg [ oU 4 (.nil 9)] [0,1]) (.seq (.reg [ oC 5 0,oC 6 1,oU 7 (.call 64 [.v 5,.v 6,.k (.int .i64 0),.k (.int .i64 (-1))]),oU 4 (.tk 7)] [4]) (.ret))
def rs39 : List RV := [.t 4]
theorem chk39 : chkFn Tryz.prog Tryz.f39 2 pc39 rs39 = true := by kernel_rfl
theorem rule39 : RuL 39 2 pc39 rs39 := rlM Tryz.func39 chk39

/-- slices.Contains[[]string,string] -/
def pc40 : PC := .seq (.reg [ oU 4 (.cp (.k (.bool false)))] [0,1]) (.seq (.reg [ oC 5 0,oC 6 1,oU 7 (.call 42 [.v 5,.v 6]),oU 8 (.ci .geq (.v 7) (.k (.int .i64 0))),oC 4 8] [4]) (.ret))
def rs40 : List RV := [.t 4]
theorem chk40 : chkFn Tryz.prog Tryz.f40 2 pc40 rs40 = true := by kernel_rfl
theorem rule40 : RuL 40 2 pc40 rs40 := rlM Tryz.func40 chk40

/-- klippe/relation.words -/
def pc41 : PC := .seq (.reg [ oU 0 (.alloc [.str [],.str [],.str [],.str []])] [0]) (.seq (.reg [ oU 1 (.bld [.str [],.str [],.str [],.str []] [(0,1,.k (.str [111,118,101,114,108,105,101,115])),(1,1,.k (.str [99,117,116,115])),(2,1,.k (.str [105,110,116,114,117,100,101,115])),(3,1,.k (.str [97,103,97,105,110,115,116]))]),⟨none,.st 4 (.v 0) (.v 1),none⟩] [0]) (.ret))
def rs41 : List RV := [.c 0 true 4]
theorem chk41 : chkFn Tryz.prog Tryz.f41 0 pc41 rs41 = true := by kernel_rfl
theorem rule41 : RuL 41 0 pc41 rs41 := rlM Tryz.func41 chk41

/-- slices.Index[[]string,string] -/
def pc42 : PC := .seq (.reg [ oU 4 (.cp (.k (.int .i64 0)))] [0,1]) (.seq (.seq (.reg [ oC 6 0,oU 7 (.len (.v 6)),oU 8 (.cp (.k (.int .i64 0)))] [0,1,7,8]) (.blk 0 (.loop (.seq (.reg [ oU 9 (.ci .lss (.v 8) (.v 7))] [0,1,7,8,9]) (.seq (.cnd (.v 9) (.skip) (.exit 0)) (.seq (.blk 1 (.seq (.reg [ oC 10 8,oC 5 10] [0,1,5,7,8]) (.seq (.reg [ oC 11 1,oC 12 0,oC 13 5,oU 14 (.ia 1 (.v 12) (.v 13)),oU 15 (.ld false 1 (.v 14)),oU 16 (.sc .eql (.v 11) (.v 15))] [0,1,5,7,8,16]) (.cnd (.v 16) (.seq (.reg [ oC 17 5,oC 4 17] [4]) (.ret)) (.skip))))) (.reg [ oU 18 (.ari .add .i64 (.v 8) (.k (.int .i64 1))),oC 8 18] [0,1,7,8]))))))) (.seq (.reg [ oU 4 (.cp (.k (.int .i64 (-1))))] [4]) (.ret)))
def rs42 : List RV := [.t 4]
theorem chk42 : chkFn Tryz.prog Tryz.f42 2 pc42 rs42 = true := by kernel_rfl
theorem rule42 : RuL 42 2 pc42 rs42 := rlM Tryz.func42 chk42

/-- klippe/relation.CheckAll -/
def pc43 : PC := .seq (.reg [ oU 2 (.cp (.k (.int .i64 0)))] [0]) (.seq (.seq (.reg [ oC 6 0,oU 7 (.len (.v 6)),oU 8 (.ci .gtr (.v 7) (.k (.int .i64 200)))] [0,8]) (.cnd (.v 8) (.seq (.reg [ oU 2 (.cp (.k (.int .i64 4)))] [2]) (.ret)) (.skip))) (.seq (.seq (.reg [ oC 9 0,oU 10 (.len (.v 9)),oU 11 (.cp (.k (.int .i64 0)))] [9,10,11]) (.blk 0 (.loop (.seq (.reg [ oU 12 (.ci .lss (.v 11) (.v 10))] [9,10,11,12]) (.seq (.cnd (.v 12) (.skip) (.exit 0)) (.seq (.blk 1 (.seq (.reg [ oU 13 (.ia 3 (.v 9) (.v 11)),oU 14 (.ld true 3 (.v 13)),oU 4 (.alloc [.int .i64 0,.str [],.str []]),⟨none,.st 3 (.v 4) (.v 14),none⟩] [4,9,10,11]) (.seq (.reg [ oU 15 (.ld true 3 (.v 4)),oU 16 (.call 28 [.v 15]),oC 5 16] [5,9,10,11]) (.seq (.reg [ oC 17 5,oU 18 (.ci .neq (.v 17) (.k (.int .i64 0)))] [5,9,10,11,18]) (.cnd (.v 18) (.seq (.reg [ oC 19 5,oC 2 19] [2]) (.ret)) (.skip)))))) (.reg [ oU 20 (.ari .add .i64 (.v 11) (.k (.int .i64 1))),oC 11 20] [9,10,11]))))))) (.seq (.reg [ oU 2 (.cp (.k (.int .i64 0)))] [2]) (.ret))))
def rs43 : List RV := [.t 2]
theorem chk43 : chkFn Tryz.prog Tryz.f43 1 pc43 rs43 = true := by kernel_rfl
theorem rule43 : RuL 43 1 pc43 rs43 := rlM Tryz.func43 chk43

/-- slices.SortFunc[[]klippe/relation.Arc,klippe/relation.Arc] -/
def pc44 : PC := .seq (.reg [ oC 5 0,oU 6 (.len (.v 5)),oC 4 6] [0,1,4]) (.reg [ oC 7 0,oC 8 4,oC 9 4,oU 10 (.cvI .u64 (.v 9)),oU 11 (.call 61 [.v 10]),oC 12 1,oU 13 (.call 65 [.v 7,.k (.int .i64 0),.v 8,.v 11,.v 12])] [])
def rs44 : List RV := []
theorem chk44 : chkFn Tryz.prog Tryz.f44 2 pc44 rs44 = true := by kernel_rfl
theorem rule44 : RuL 44 2 pc44 rs44 := rlM Tryz.func44 chk44

/-- cmp.Or[int] -/
def pc46 : PC := .seq (.reg [ oU 2 (.cp (.k (.int .i64 0)))] [0]) (.seq (.reg [ oU 3 (.cp (.k (.int .i64 0)))] [0,3]) (.seq (.seq (.reg [ oC 6 0,oU 7 (.len (.v 6)),oU 8 (.cp (.k (.int .i64 0)))] [3,6,7,8]) (.blk 0 (.loop (.seq (.reg [ oU 9 (.ci .lss (.v 8) (.v 7))] [3,6,7,8,9]) (.seq (.cnd (.v 9) (.skip) (.exit 0)) (.seq (.blk 1 (.seq (.reg [ oU 10 (.ia 1 (.v 6) (.v 8)),oU 11 (.ld false 1 (.v 10)),oC 5 11] [3,5,6,7,8]) (.seq (.reg [ oC 12 5,oC 13 3,oU 14 (.ci .neq (.v 12) (.v 13))] [3,5,6,7,8,14]) (.cnd (.v 14) (.seq (.reg [ oC 15 5,oC 2 15] [2]) (.ret)) (.skip))))) (.reg [ oU 16 (.ari .add .i64 (.v 8) (.k (.int .i64 1))),oC 8 16] [3,6,7,8]))))))) (.seq (.reg [ oC 17 3,oC 2 17] [2]) (.ret))))
def rs46 : List RV := [.t 2]
theorem chk46 : chkFn Tryz.prog Tryz.f46 1 pc46 rs46 = true := by kernel_rfl
theorem rule46 : RuL 46 1 pc46 rs46 := rlM Tryz.func46 chk46

end Go.Proofs
