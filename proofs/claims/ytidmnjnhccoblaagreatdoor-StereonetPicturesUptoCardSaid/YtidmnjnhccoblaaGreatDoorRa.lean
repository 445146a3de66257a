/- The pure readings of functions of this seat, printed by program (pcfile.py). Own work. -/
import Derived.Test.YtidmnjnhccoblaaGreatDoorProg
import Derived.Test.YtidmnjnhccoblaaGreatDoorPj
import Derived.KernelRfl
namespace Go.Proofs
open Go Go.Pi Go.RowKit
set_option maxRecDepth 100000
set_option linter.unusedVariables false
set_option linter.unusedSimpArgs false
def oU (t : Nat) (k : K) : PO := ⟨some t, k, none⟩
def oC (t v : Nat) : PO := ⟨some t, .cp (.v v), none⟩
abbrev Rl (k n : Nat) (pc : PC) (rs : List RV) : Prop := ∀ {L : World → Prop} (_ : ∀ w w', L w → Below w.heap.size w w' → L w') {ds : List D} {r : D} (_ : aliasOf r = none) (_ : ds.length = n) (_ : ds.all (fun d => (aliasOf d).isNone) = true) (_ : wC (Con Tryz.prog L) pc (retQ rs r) (initE 0 ds)), Con Tryz.prog L k ds r
theorem rlM {k n : Nat} {pc : PC} {rs : List RV} {fn : Func} (hf : Tryz.prog.funcs[k]? = some fn) (hc : chkFn Tryz.prog fn n pc rs = true) : Rl k n pc rs := fun hL _ _ hr0 hlen hp h => con_chk hL hf hc hr0 hlen hp (wC_sound h)

/-- klippe/klippelaw18.known -/
def pc10 : PC := .seq (.reg [ oU 0 (.cp (.k (.bool false)))] []) (.seq (.reg [ oU 10 (.bld [.int .i64 0,.int .i64 0] [(0,1,.k (.int .i64 1)),(1,1,.k (.int .i64 100))]),oU 11 (.bld [.int .i64 0,.int .i64 0] [(0,1,.k (.int .i64 2)),(1,1,.k (.int .i64 100))]),oU 1 (.alloc [.int .i64 0,.int .i64 0]),oU 2 (.alloc [.int .i64 0,.int .i64 0]),⟨none,.st 2 (.v 1) (.v 10),none⟩,⟨none,.st 2 (.v 2) (.v 11),none⟩] [1,2]) (.seq (.reg [ oU 13 (.ld true 2 (.v 1)),oU 14 (.bld [.str [],.str [],.str []] [(0,1,.k (.str [49])),(1,1,.k (.str [48])),(2,1,.k (.str [45,49]))]),oU 15 (.call 12 [.v 13,.v 14]),oC 12 15,oU 16 (.ext 12 0),oU 17 (.ext 12 1),oU 3 (.alloc [.int .i64 0,.int .i64 0]),⟨none,.st 2 (.v 3) (.v 16),none⟩,oC 4 17] [2,3,4]) (.seq (.reg [ oU 19 (.ld true 2 (.v 2)),oU 20 (.bld [.str [],.str [],.str []] [(0,1,.k (.str [49])),(1,1,.k (.str [48])),(2,1,.k (.str [49]))]),oU 21 (.call 12 [.v 19,.v 20]),oC 18 21,oU 22 (.ext 18 0),oU 23 (.ext 18 1),oU 5 (.alloc [.int .i64 0,.int .i64 0]),⟨none,.st 2 (.v 5) (.v 22),none⟩,oC 6 23] [3,4,5,6]) (.seq (.reg [ oU 24 (.bld [.str [],.str [],.str []] [(0,1,.k (.str [48])),(1,1,.k (.str [48])),(2,1,.k (.str [45,49]))]),oU 7 (.alloc [.str [],.str [],.str []]),⟨none,.st 3 (.v 7) (.v 24),none⟩] [3,4,5,6,7]) (.seq (.reg [ oU 26 (.bld [.int .i64 0,.int .i64 0] [(0,1,.k (.int .i64 1)),(1,1,.k (.int .i64 1))]),oU 27 (.ld true 3 (.v 7)),oU 28 (.ld true 3 (.v 7)),oU 29 (.bldS 26 [.str [],.str [],.str []] 2 [(0,3,.v 27),(3,3,.v 28)]),oU 30 (.call 31 [.v 26,.v 29]),oC 25 30,oU 31 (.ext 25 0),oU 32 (.ext 25 1),oC 8 31,oC 9 32] [3,4,5,6,8,9]) (.seq (.reg [ oC 33 4,oU 34 (.ci .eql (.v 33) (.k (.int .i64 0))),oC 35 34,⟨some 36,.cp (.v 6),(some (35,true))⟩,⟨some 37,.ci .eql (.v 36) (.k (.int .i64 0)),(some (35,true))⟩,oU 38 (.pick (.v 35) (.v 37) (.k (.bool false))),oC 39 38,⟨some 40,.cp (.v 9),(some (39,true))⟩,⟨some 41,.ci .eql (.v 40) (.k (.int .i64 0)),(some (39,true))⟩,oU 42 (.pick (.v 39) (.v 41) (.k (.bool false))),oC 43 42,⟨some 44,.ld true 2 (.v 3),(some (43,true))⟩,⟨some 45,.bld [.int .i64 0,.int .i64 0] [(0,1,.k (.int .i64 41))],(some (43,true))⟩,⟨some 46,.eq false [1,1] (.v 44) (.v 45),(some (43,true))⟩,oU 47 (.pick (.v 43) (.v 46) (.k (.bool false))),oC 48 47,⟨some 49,.ld true 2 (.v 5),(some (48,true))⟩,⟨some 50,.bld [.int .i64 0,.int .i64 0] [(0,1,.k (.int .i64 (-54)))],(some (48,true))⟩,⟨some 51,.eq false [1,1] (.v 49) (.v 50),(some (48,true))⟩,oU 52 (.pick (.v 48) (.v 51) (.k (.bool false))),oC 53 52,⟨some 54,.cp (.v 8),(some (53,true))⟩,⟨some 55,.bldS 9 [.str []] 3 [(0,1,.k (.str [32,46,32])),(1,1,.k (.str [46,50,46])),(2,1,.k (.str [32,46,32]))],(some (53,true))⟩,⟨some 56,.call 37 [.v 54,.v 55],(some (53,true))⟩,oU 57 (.pick (.v 53) (.v 56) (.k (.bool false))),oC 0 57] [0]) (.ret)))))))
def rs10 : List RV := [.t 0]
theorem chk10 : chkFn Tryz.prog Tryz.f10 0 pc10 rs10 = true := by kernel_rfl
theorem rule10 : Rl 10 0 pc10 rs10 := rlM Tryz.func10 chk10

/-- klippe/klippelaw18.brief -/
def pc11 : PC := .seq (.reg [ oU 2 (.cp (.k (.bool false)))] [0]) (.seq (.reg [ oC 3 0,oU 4 (.call 38 [.v 3,.k (.clo 39 [])]),oU 5 (.not (.v 4)),oC 2 5] [2]) (.ret))
def rs11 : List RV := [.t 2]
theorem chk11 : chkFn Tryz.prog Tryz.f11 1 pc11 rs11 = true := by kernel_rfl
theorem rule11 : Rl 11 1 pc11 rs11 := rlM Tryz.func11 chk11

/-- klippe/stereonet.Pixel -/
def pc12 : PC := .seq (.reg [ oU 2 (.bx 2 (.v 0)),oU 3 (.bx 3 (.v 1)),oU 4 (.alloc [.int .i64 0,.int .i64 0]),oU 5 (.cp (.k (.int .i64 0)))] [2,3,4]) (.seq (.seq (.reg [ oU 8 (.ld true 2 (.v 2)),oU 9 (.ld true 3 (.v 3)),oU 10 (.bldS 26 [.str [],.str [],.str []] 1 [(0,3,.v 9)]),oU 11 (.call 40 [.v 8,.v 10]),oC 6 11] [2,3,4,6]) (.seq (.reg [ oC 12 6,oU 13 (.ci .neq (.v 12) (.k (.int .i64 0)))] [2,3,4,6,13]) (.cnd (.v 13) (.seq (.reg [ oU 14 (.bld [.int .i64 0,.int .i64 0] []),oC 15 6,⟨none,.st 2 (.v 4) (.v 14),none⟩,oC 5 15] [4,5]) (.ret)) (.skip)))) (.seq (.seq (.reg [ oU 16 (.ld true 3 (.v 3)),oU 17 (.bldS 26 [.str [],.str [],.str []] 1 [(0,3,.v 16)]),oU 18 (.call 41 [.v 17]),oC 7 18] [2,3,4,7]) (.seq (.reg [ oC 19 7,oU 20 (.ci .neq (.v 19) (.k (.int .i64 0)))] [2,3,4,7,20]) (.cnd (.v 20) (.seq (.reg [ oU 21 (.bld [.int .i64 0,.int .i64 0] []),oC 22 7,⟨none,.st 2 (.v 4) (.v 21),none⟩,oC 5 22] [4,5]) (.ret)) (.skip)))) (.seq (.reg [ oU 23 (.ld true 2 (.v 2)),oU 24 (.ld true 3 (.v 3)),oU 25 (.call 42 [.v 23,.v 24]),⟨none,.st 2 (.v 4) (.v 25),none⟩,oU 5 (.cp (.k (.int .i64 0)))] [4,5]) (.ret))))
def rs12 : List RV := [.c 4 true 2, .t 5]
theorem chk12 : chkFn Tryz.prog Tryz.f12 2 pc12 rs12 = true := by kernel_rfl
theorem rule12 : Rl 12 2 pc12 rs12 := rlM Tryz.func12 chk12

/-- klippe/klippelaw18.pixel -/
def pc14 : PC := .seq (.reg [ oU 2 (.bx 2 (.v 0)),oU 3 (.bx 3 (.v 1)),oU 4 (.alloc [.int .i64 0,.int .i64 0])] [2,3,4]) (.seq (.reg [ oU 5 (.ld true 3 (.v 3)),oU 6 (.call 17 [.v 5]),⟨none,.st 3 (.v 3) (.v 6),none⟩] [2,3,4]) (.seq (.reg [ oU 7 (.ld true 2 (.v 2)),oU 8 (.ld true 3 (.v 3)),oU 9 (.fa 0 (.v 3)),oU 10 (.ld false 1 (.o 9 3)),oU 11 (.call 45 [.v 7,.v 8,.v 10]),oU 12 (.ld true 2 (.v 2)),oU 13 (.ld true 3 (.v 3)),oU 14 (.fa 1 (.v 3)),oU 15 (.ld false 1 (.o 14 3)),oU 16 (.call 45 [.v 12,.v 13,.v 15]),oU 17 (.bld [.int .i64 0,.int .i64 0] [(0,1,.v 11),(1,1,.v 16)]),⟨none,.st 2 (.v 4) (.v 17),none⟩] [4]) (.ret)))
def rs14 : List RV := [.c 4 true 2]
theorem chk14 : chkFn Tryz.prog Tryz.f14 2 pc14 rs14 = true := by kernel_rfl
theorem rule14 : Rl 14 2 pc14 rs14 := rlM Tryz.func14 chk14

/-- klippe/klippelaw18.lower -/
def pc17 : PC := .seq (.reg [ oU 1 (.bx 3 (.v 0)),oU 2 (.alloc [.str [],.str [],.str []])] [1,2]) (.seq (.seq (.reg [ oU 3 (.fa 2 (.v 1)),oU 4 (.ld false 1 (.o 3 1)),oU 5 (.call 22 [.v 4]),oU 6 (.ci .gtr (.v 5) (.k (.int .i64 0)))] [1,2,6]) (.cnd (.v 6) (.seq (.reg [ oU 7 (.ld true 3 (.v 1)),oU 8 (.call 28 [.v 7,.k (.str [45,49])]),⟨none,.st 3 (.v 2) (.v 8),none⟩] [2]) (.ret)) (.skip))) (.seq (.reg [ oU 9 (.ld true 3 (.v 1)),⟨none,.st 3 (.v 2) (.v 9),none⟩] [2]) (.ret)))
def rs17 : List RV := [.c 2 true 3]
theorem chk17 : chkFn Tryz.prog Tryz.f17 1 pc17 rs17 = true := by kernel_rfl
theorem rule17 : Rl 17 1 pc17 rs17 := rlM Tryz.func17 chk17

/-- klippe/klipperef10.Zero -/
def pc18 : PC := .seq (.reg [ oU 1 (.bx 3 (.v 0)),oU 2 (.cp (.k (.bool false)))] [1]) (.seq (.reg [ oU 3 (.fa 0 (.v 1)),oU 4 (.ld false 1 (.o 3 1)),oU 5 (.sc .eql (.v 4) (.k (.str [48]))),oC 6 5,⟨some 7,.fa 1 (.v 1),(some (6,true))⟩,⟨some 8,.ld false 1 (.o 7 1),(some (6,true))⟩,⟨some 9,.sc .eql (.v 8) (.k (.str [48])),(some (6,true))⟩,oU 10 (.pick (.v 6) (.v 9) (.k (.bool false))),oC 11 10,⟨some 12,.fa 2 (.v 1),(some (11,true))⟩,⟨some 13,.ld false 1 (.o 12 1),(some (11,true))⟩,⟨some 14,.sc .eql (.v 13) (.k (.str [48])),(some (11,true))⟩,oU 15 (.pick (.v 11) (.v 14) (.k (.bool false))),oC 2 15] [2]) (.ret))
def rs18 : List RV := [.t 2]
theorem chk18 : chkFn Tryz.prog Tryz.f18 1 pc18 rs18 = true := by kernel_rfl
theorem rule18 : Rl 18 1 pc18 rs18 := rlM Tryz.func18 chk18

/-- klippe/klipperef02.Right -/
def pc21 : PC := .seq (.reg [ oU 2 (.cp (.k (.bool false)))] [0]) (.seq (.reg [ oC 6 0,oU 7 (.call 56 [.v 6]),oC 5 7,oU 8 (.ext 5 0),oU 9 (.ext 5 1),oC 3 8,oC 4 9] [0,3,4]) (.seq (.seq (.reg [ oC 10 3,oU 11 (.call 57 [.v 10]),oU 12 (.not (.v 11)),oC 13 12,⟨some 14,.cp (.v 4),(some (13,false))⟩,⟨some 15,.call 57 [.v 14],(some (13,false))⟩,⟨some 16,.not (.v 15),(some (13,false))⟩,oU 17 (.pick (.v 13) (.k (.bool true)) (.v 16))] [0,3,4,17]) (.cnd (.v 17) (.seq (.reg [ oU 2 (.cp (.k (.bool false)))] [2]) (.ret)) (.skip))) (.seq (.seq (.reg [ oC 18 0,oU 19 (.call 58 [.v 18,.k (.int .u8 47)]),oU 20 (.ci .lss (.v 19) (.k (.int .i64 0)))] [3,4,20]) (.cnd (.v 20) (.seq (.reg [ oU 2 (.cp (.k (.bool true)))] [2]) (.ret)) (.skip))) (.seq (.reg [ oC 21 4,oU 22 (.call 59 [.v 21,.k (.str [49])]),oU 23 (.ci .gtr (.v 22) (.k (.int .i64 0))),oC 24 23,⟨some 25,.cp (.v 3),(some (24,true))⟩,⟨some 26,.sc .neq (.v 25) (.k (.str [48])),(some (24,true))⟩,oU 27 (.pick (.v 24) (.v 26) (.k (.bool false))),oC 28 27,⟨some 29,.cp (.v 3),(some (28,true))⟩,⟨some 30,.cp (.v 4),(some (28,true))⟩,⟨some 31,.call 60 [.v 29,.v 30],(some (28,true))⟩,⟨some 32,.sc .eql (.v 31) (.k (.str [49])),(some (28,true))⟩,oU 33 (.pick (.v 28) (.v 32) (.k (.bool false))),oC 2 33] [2]) (.ret)))))
def rs21 : List RV := [.t 2]
theorem chk21 : chkFn Tryz.prog Tryz.f21 1 pc21 rs21 = true := by kernel_rfl
theorem rule21 : Rl 21 1 pc21 rs21 := rlM Tryz.func21 chk21

/-- klippe/klipperef02.Sign -/
def pc22 : PC := .seq (.reg [ oU 2 (.cp (.k (.int .i64 0)))] [0]) (.seq (.seq (.reg [ oC 3 0,oU 4 (.sc .eql (.v 3) (.k (.str [48])))] [0,4]) (.cnd (.v 4) (.seq (.reg [ oU 2 (.cp (.k (.int .i64 0)))] [2]) (.ret)) (.skip))) (.seq (.seq (.reg [ oC 5 0,oU 6 (.ix (.v 5) (.k (.int .i64 0))),oU 7 (.ci .eql (.v 6) (.k (.int .u8 45)))] [7]) (.cnd (.v 7) (.seq (.reg [ oU 2 (.cp (.k (.int .i64 (-1))))] [2]) (.ret)) (.skip))) (.seq (.reg [ oU 2 (.cp (.k (.int .i64 1)))] [2]) (.ret))))
def rs22 : List RV := [.t 2]
theorem chk22 : chkFn Tryz.prog Tryz.f22 1 pc22 rs22 = true := by kernel_rfl
theorem rule22 : Rl 22 1 pc22 rs22 := rlM Tryz.func22 chk22

/-- klippe/klipperef02.Compare -/
def pc23 : PC := .seq (.reg [ oU 4 (.cp (.k (.int .i64 0)))] [0,1]) (.seq (.reg [ oC 5 0,oC 6 1,oU 7 (.call 61 [.v 5,.v 6]),oU 8 (.call 22 [.v 7]),oC 4 8] [4]) (.ret))
def rs23 : List RV := [.t 4]
theorem chk23 : chkFn Tryz.prog Tryz.f23 2 pc23 rs23 = true := by kernel_rfl
theorem rule23 : Rl 23 2 pc23 rs23 := rlM Tryz.func23 chk23

/-- klippe/klippelaw18.dot -/
def pc24 : PC := .seq (.reg [ oU 2 (.bx 3 (.v 0)),oU 3 (.bx 3 (.v 1)),oU 4 (.cp (.k (.str [])))] [2,3]) (.seq (.reg [ oU 5 (.ld true 3 (.v 2)),oU 6 (.ld true 3 (.v 3)),oU 7 (.call 62 [.v 5,.v 6]),oC 4 7] [4]) (.ret))
def rs24 : List RV := [.t 4]
theorem chk24 : chkFn Tryz.prog Tryz.f24 2 pc24 rs24 = true := by kernel_rfl
theorem rule24 : Rl 24 2 pc24 rs24 := rlM Tryz.func24 chk24

/-- klippe/klippelaw18.mul -/
def pc25 : PC := .seq (.reg [ oU 4 (.cp (.k (.str [])))] [0,1]) (.seq (.reg [ oC 5 0,oC 6 1,oU 7 (.call 63 [.v 5,.v 6]),oC 4 7] [4]) (.ret))
def rs25 : List RV := [.t 4]
theorem chk25 : chkFn Tryz.prog Tryz.f25 2 pc25 rs25 = true := by kernel_rfl
theorem rule25 : Rl 25 2 pc25 rs25 := rlM Tryz.func25 chk25

/-- klippe/klipperef02.Of -/
def pc27 : PC := .seq (.reg [ oU 4 (.cp (.k (.str [])))] [0,1]) (.seq (.reg [ oC 5 0,oU 6 (.call 65 [.v 5]),oC 7 1,oU 8 (.call 65 [.v 7]),oU 9 (.call 64 [.v 6,.v 8]),oC 4 9] [4]) (.ret))
def rs27 : List RV := [.t 4]
theorem chk27 : chkFn Tryz.prog Tryz.f27 2 pc27 rs27 = true := by kernel_rfl
theorem rule27 : Rl 27 2 pc27 rs27 := rlM Tryz.func27 chk27

/-- klippe/klipperef10.Scale -/
def pc28 : PC := .seq (.reg [ oU 2 (.bx 3 (.v 0)),oU 4 (.alloc [.str [],.str [],.str []])] [1,2,4]) (.seq (.reg [ oU 5 (.fa 0 (.v 2)),oU 6 (.ld false 1 (.o 5 2)),oC 7 1,oU 8 (.call 63 [.v 6,.v 7]),oU 9 (.fa 1 (.v 2)),oU 10 (.ld false 1 (.o 9 2)),oC 11 1,oU 12 (.call 63 [.v 10,.v 11]),oU 13 (.fa 2 (.v 2)),oU 14 (.ld false 1 (.o 13 2)),oC 15 1,oU 16 (.call 63 [.v 14,.v 15]),oU 17 (.bld [.str [],.str [],.str []] [(0,1,.v 8),(1,1,.v 12),(2,1,.v 16)]),⟨none,.st 3 (.v 4) (.v 17),none⟩] [4]) (.ret))
def rs28 : List RV := [.c 4 true 3]
theorem chk28 : chkFn Tryz.prog Tryz.f28 2 pc28 rs28 = true := by kernel_rfl
theorem rule28 : Rl 28 2 pc28 rs28 := rlM Tryz.func28 chk28

/-- klippe/klipperef02.Neg -/
def pc29 : PC := .seq (.reg [ oU 2 (.cp (.k (.str [])))] [0]) (.seq (.seq (.reg [ oC 3 0,oU 4 (.sc .eql (.v 3) (.k (.str [48])))] [0,4]) (.cnd (.v 4) (.seq (.reg [ oC 5 0,oC 2 5] [2]) (.ret)) (.skip))) (.seq (.seq (.reg [ oC 6 0,oU 7 (.ix (.v 6) (.k (.int .i64 0))),oU 8 (.ci .eql (.v 7) (.k (.int .u8 45)))] [0,8]) (.cnd (.v 8) (.seq (.reg [ oC 9 0,oU 10 (.slS (.v 9) (some (.k (.int .i64 1))) none),oC 2 10] [2]) (.ret)) (.skip))) (.seq (.reg [ oC 11 0,oU 12 (.cat (.k (.str [45])) (.v 11)),oC 2 12] [2]) (.ret))))
def rs29 : List RV := [.t 2]
theorem chk29 : chkFn Tryz.prog Tryz.f29 1 pc29 rs29 = true := by kernel_rfl
theorem rule29 : Rl 29 1 pc29 rs29 := rlM Tryz.func29 chk29

/-- klippe/klippelaw18.mark -/
def pc32 : PC := .seq (.reg [ oU 4 (.bx 2 (.v 1)),oU 6 (.cp (.k (.int .u8 0)))] [0,2,4]) (.seq (.blk 0 (.seq (.reg [ oC 8 0,oU 9 (.ci .gtr (.v 8) (.k (.int .i64 9))),oC 7 9] [0,2,4,7]) (.cnd (.v 7) (.seq (.reg [ oU 6 (.cp (.k (.int .u8 42)))] [6]) (.ret)) (.seq (.reg [ oC 11 0,oU 12 (.ci .gtr (.v 11) (.k (.int .i64 0))),oC 10 12] [0,2,4,10]) (.cnd (.v 10) (.seq (.reg [ oC 13 0,oU 14 (.cvI .u8 (.v 13)),oU 15 (.ari .add .u8 (.k (.int .u8 48)) (.v 14)),oC 6 15] [6]) (.ret)) (.seq (.reg [ oU 17 (.fa 0 (.v 4)),oU 18 (.ld false 1 (.o 17 4)),oU 19 (.fa 0 (.v 4)),oU 20 (.ld false 1 (.o 19 4)),oU 21 (.ari .mul .i64 (.v 18) (.v 20)),oU 22 (.fa 1 (.v 4)),oU 23 (.ld false 1 (.o 22 4)),oU 24 (.fa 1 (.v 4)),oU 25 (.ld false 1 (.o 24 4)),oU 26 (.ari .mul .i64 (.v 23) (.v 25)),oU 27 (.ari .add .i64 (.v 21) (.v 26)),oC 28 2,oC 29 2,oU 30 (.ari .mul .i64 (.v 28) (.v 29)),oU 31 (.ci .leq (.v 27) (.v 30)),oC 16 31] [16]) (.cnd (.v 16) (.seq (.reg [ oU 6 (.cp (.k (.int .u8 46)))] [6]) (.ret)) (.skip)))))))) (.seq (.reg [ oU 6 (.cp (.k (.int .u8 32)))] [6]) (.ret)))
def rs32 : List RV := [.t 6]
theorem chk32 : chkFn Tryz.prog Tryz.f32 3 pc32 rs32 = true := by kernel_rfl
theorem rule32 : Rl 32 3 pc32 rs32 := rlM Tryz.func32 chk32

/-- slices.Equal[[]string,string] -/
def pc37 : PC := .seq (.reg [ oU 4 (.cp (.k (.bool false)))] [0,1]) (.seq (.seq (.reg [ oC 6 0,oU 7 (.len (.v 6)),oC 8 1,oU 9 (.len (.v 8)),oU 10 (.ci .neq (.v 7) (.v 9))] [0,1,10]) (.cnd (.v 10) (.seq (.reg [ oU 4 (.cp (.k (.bool false)))] [4]) (.ret)) (.skip))) (.seq (.seq (.reg [ oC 11 0,oU 12 (.len (.v 11)),oU 13 (.cp (.k (.int .i64 0)))] [0,1,12,13]) (.blk 0 (.loop (.seq (.reg [ oU 14 (.ci .lss (.v 13) (.v 12))] [0,1,12,13,14]) (.seq (.cnd (.v 14) (.skip) (.exit 0)) (.seq (.blk 1 (.seq (.reg [ oC 15 13,oC 5 15] [0,1,5,12,13]) (.seq (.reg [ oC 16 0,oC 17 5,oU 18 (.ia 1 (.v 16) (.v 17)),oU 19 (.ld false 1 (.v 18)),oC 20 1,oC 21 5,oU 22 (.ia 1 (.v 20) (.v 21)),oU 23 (.ld false 1 (.v 22)),oU 24 (.sc .neq (.v 19) (.v 23))] [0,1,12,13,24]) (.cnd (.v 24) (.seq (.reg [ oU 4 (.cp (.k (.bool false)))] [4]) (.ret)) (.skip))))) (.reg [ oU 25 (.ari .add .i64 (.v 13) (.k (.int .i64 1))),oC 13 25] [0,1,12,13]))))))) (.seq (.reg [ oU 4 (.cp (.k (.bool true)))] [4]) (.ret))))
def rs37 : List RV := [.t 4]
theorem chk37 : chkFn Tryz.prog Tryz.f37 2 pc37 rs37 = true := by kernel_rfl
theorem rule37 : Rl 37 2 pc37 rs37 := rlM Tryz.func37 chk37

/-- slices.ContainsFunc[[]klippe/api.Vector,klippe/api.Vector] -/
def pc38 : PC := .seq (.reg [ oU 4 (.cp (.k (.bool false)))] [0,1]) (.seq (.reg [ oC 5 0,oC 6 1,oU 7 (.call 72 [.v 5,.v 6]),oU 8 (.ci .geq (.v 7) (.k (.int .i64 0))),oC 4 8] [4]) (.ret))
def rs38 : List RV := [.t 4]
theorem chk38 : chkFn Tryz.prog Tryz.f38 2 pc38 rs38 = true := by kernel_rfl
theorem rule38 : Rl 38 2 pc38 rs38 := rlM Tryz.func38 chk38

/-- klippe/stereonet.open -/
def pc40 : PC := .seq (.reg [ oU 2 (.bx 2 (.v 0)),oU 4 (.cp (.k (.int .i64 0)))] [1,2]) (.seq (.seq (.reg [ oC 6 1,oU 7 (.call 46 [.v 6]),oC 5 7] [2,5]) (.seq (.reg [ oC 8 5,oU 9 (.ci .neq (.v 8) (.k (.int .i64 0)))] [2,5,9]) (.cnd (.v 9) (.seq (.reg [ oC 10 5,oC 4 10] [4]) (.ret)) (.skip)))) (.seq (.reg [ oU 11 (.ld true 2 (.v 2)),oU 12 (.call 73 [.v 11]),oC 4 12] [4]) (.ret)))
def rs40 : List RV := [.t 4]
theorem chk40 : chkFn Tryz.prog Tryz.f40 2 pc40 rs40 = true := by kernel_rfl
theorem rule40 : Rl 40 2 pc40 rs40 := rlM Tryz.func40 chk40

/-- klippe/stereonet.zeros -/
def pc41 : PC := .seq (.reg [ oU 2 (.cp (.k (.int .i64 0)))] [0]) (.seq (.seq (.reg [ oC 3 0,oU 4 (.call 38 [.v 3,.k (.clo 48 [])])] [4]) (.cnd (.v 4) (.seq (.reg [ oU 2 (.cp (.k (.int .i64 17)))] [2]) (.ret)) (.skip))) (.seq (.reg [ oU 2 (.cp (.k (.int .i64 0)))] [2]) (.ret)))
def rs41 : List RV := [.t 2]
theorem chk41 : chkFn Tryz.prog Tryz.f41 1 pc41 rs41 = true := by kernel_rfl
theorem rule41 : Rl 41 1 pc41 rs41 := rlM Tryz.func41 chk41

/-- klippe/stereonet.pixel -/
def pc42 : PC := .seq (.reg [ oU 2 (.bx 2 (.v 0)),oU 3 (.bx 3 (.v 1)),oU 4 (.alloc [.int .i64 0,.int .i64 0])] [2,3,4]) (.seq (.reg [ oU 5 (.ld true 3 (.v 3)),oU 6 (.call 47 [.v 5]),⟨none,.st 3 (.v 3) (.v 6),none⟩] [2,3,4]) (.seq (.reg [ oU 7 (.ld true 2 (.v 2)),oU 8 (.fa 0 (.v 3)),oU 9 (.ld false 1 (.o 8 3)),oU 10 (.ld true 3 (.v 3)),oU 11 (.call 74 [.v 7,.v 9,.v 10]),oU 12 (.ld true 2 (.v 2)),oU 13 (.fa 1 (.v 3)),oU 14 (.ld false 1 (.o 13 3)),oU 15 (.ld true 3 (.v 3)),oU 16 (.call 74 [.v 12,.v 14,.v 15]),oU 17 (.bld [.int .i64 0,.int .i64 0] [(0,1,.v 11),(1,1,.v 16)]),⟨none,.st 2 (.v 4) (.v 17),none⟩] [4]) (.ret)))
def rs42 : List RV := [.c 4 true 2]
theorem chk42 : chkFn Tryz.prog Tryz.f42 2 pc42 rs42 = true := by kernel_rfl
theorem rule42 : Rl 42 2 pc42 rs42 := rlM Tryz.func42 chk42

/-- klippe/klippelaw18.first$1 -/
def pc43 : PC := .seq (.reg [ oU 1 (.bx 3 (.v 0)),oU 2 (.cp (.k (.bool false)))] [1]) (.seq (.reg [ oU 3 (.ld true 3 (.v 1)),oU 4 (.call 44 [.v 3]),oU 5 (.not (.v 4)),oC 2 5] [2]) (.ret))
def rs43 : List RV := [.t 2]
theorem chk43 : chkFn Tryz.prog Tryz.f43 1 pc43 rs43 = true := by kernel_rfl
theorem rule43 : Rl 43 1 pc43 rs43 := rlM Tryz.func43 chk43

/-- klippe/klipperef10.Right -/
def pc44 : PC := .seq (.reg [ oU 1 (.bx 3 (.v 0)),oU 2 (.cp (.k (.bool false)))] [1]) (.seq (.reg [ oU 3 (.ld true 3 (.v 1)),oU 4 (.call 76 [.v 3]),oU 5 (.call 75 [.v 4]),oC 2 5] [2]) (.ret))
def rs44 : List RV := [.t 2]
theorem chk44 : chkFn Tryz.prog Tryz.f44 1 pc44 rs44 = true := by kernel_rfl
theorem rule44 : Rl 44 1 pc44 rs44 := rlM Tryz.func44 chk44

/-- klippe/klippelaw18.round -/
def pc45 : PC := .seq (.reg [ oU 3 (.bx 2 (.v 0)),oU 4 (.bx 3 (.v 1)),oU 6 (.cp (.k (.int .i64 0)))] [2,3,4]) (.seq (.reg [ oU 10 (.fa 1 (.v 3)),oU 11 (.ld false 1 (.o 10 3)),oU 12 (.ng .i64 (.v 11)),oU 13 (.ari .sub .i64 (.v 12) (.k (.int .i64 1))),oU 14 (.fa 1 (.v 3)),oU 15 (.ld false 1 (.o 14 3)),oU 16 (.ari .add .i64 (.v 15) (.k (.int .i64 1))),oC 7 13,oC 8 16] [2,3,4,7,8]) (.seq (.blk 0 (.loop (.seq (.seq (.reg [ oC 17 8,oC 18 7,oU 19 (.ari .sub .i64 (.v 17) (.v 18)),oU 20 (.ci .gtr (.v 19) (.k (.int .i64 1)))] [2,3,4,7,8,20]) (.cnd (.v 20) (.skip) (.exit 0))) (.blk 1 (.seq (.reg [ oC 21 7,oC 22 8,oC 23 7,oU 24 (.ari .sub .i64 (.v 22) (.v 23)),oU 25 (.ari .quo .i64 (.v 24) (.k (.int .i64 2))),oU 26 (.ari .add .i64 (.v 21) (.v 25)),oC 9 26] [2,3,4,7,8,9]) (.seq (.reg [ oU 27 (.ld true 2 (.v 3)),oU 28 (.ld true 3 (.v 4)),oC 29 2,oC 30 9,oU 31 (.ari .mul .i64 (.k (.int .i64 2)) (.v 30)),oU 32 (.ari .sub .i64 (.v 31) (.k (.int .i64 1))),oU 33 (.call 77 [.v 27,.v 28,.v 29,.v 32])] [2,3,4,7,8,9,33]) (.cnd (.v 33) (.reg [ oC 34 9,oC 7 34] [2,3,4,7,8]) (.reg [ oC 35 9,oC 8 35] [2,3,4,7,8])))))))) (.seq (.reg [ oC 36 7,oC 6 36] [6]) (.ret))))
def rs45 : List RV := [.t 6]
theorem chk45 : chkFn Tryz.prog Tryz.f45 3 pc45 rs45 = true := by kernel_rfl
theorem rule45 : Rl 45 3 pc45 rs45 := rlM Tryz.func45 chk45

/-- klippe/stereonet.numbers -/
def pc46 : PC := .seq (.reg [ oU 2 (.cp (.k (.int .i64 0)))] [0]) (.seq (.seq (.reg [ oC 6 0,oU 7 (.len (.v 6)),oU 8 (.cp (.k (.int .i64 0)))] [6,7,8]) (.blk 0 (.loop (.seq (.reg [ oU 9 (.ci .lss (.v 8) (.v 7))] [6,7,8,9]) (.seq (.cnd (.v 9) (.skip) (.exit 0)) (.seq (.blk 1 (.seq (.reg [ oU 10 (.ia 3 (.v 6) (.v 8)),oU 11 (.ld true 3 (.v 10)),oU 4 (.alloc [.str [],.str [],.str []]),⟨none,.st 3 (.v 4) (.v 11),none⟩] [4,6,7,8]) (.seq (.reg [ oU 12 (.ld true 3 (.v 4)),oU 13 (.call 78 [.v 12]),oC 5 13] [5,6,7,8]) (.seq (.reg [ oC 14 5,oU 15 (.ci .neq (.v 14) (.k (.int .i64 0)))] [5,6,7,8,15]) (.cnd (.v 15) (.seq (.reg [ oC 16 5,oC 2 16] [2]) (.ret)) (.skip)))))) (.reg [ oU 17 (.ari .add .i64 (.v 8) (.k (.int .i64 1))),oC 8 17] [6,7,8]))))))) (.seq (.reg [ oU 2 (.cp (.k (.int .i64 0)))] [2]) (.ret)))
def rs46 : List RV := [.t 2]
theorem chk46 : chkFn Tryz.prog Tryz.f46 1 pc46 rs46 = true := by kernel_rfl
theorem rule46 : Rl 46 1 pc46 rs46 := rlM Tryz.func46 chk46

/-- klippe/stereonet.lower -/
def pc47 : PC := .seq (.reg [ oU 1 (.bx 3 (.v 0)),oU 2 (.alloc [.str [],.str [],.str []])] [1,2]) (.seq (.seq (.reg [ oU 3 (.fa 2 (.v 1)),oU 4 (.ld false 1 (.o 3 1)),oU 5 (.call 52 [.v 4]),oU 6 (.ci .gtr (.v 5) (.k (.int .i64 0)))] [1,2,6]) (.cnd (.v 6) (.seq (.reg [ oU 7 (.ld true 3 (.v 1)),oU 8 (.call 79 [.v 7,.k (.str [45,49])]),⟨none,.st 3 (.v 2) (.v 8),none⟩] [2]) (.ret)) (.skip))) (.seq (.reg [ oU 9 (.ld true 3 (.v 1)),⟨none,.st 3 (.v 2) (.v 9),none⟩] [2]) (.ret)))
def rs47 : List RV := [.c 2 true 3]
theorem chk47 : chkFn Tryz.prog Tryz.f47 1 pc47 rs47 = true := by kernel_rfl
theorem rule47 : Rl 47 1 pc47 rs47 := rlM Tryz.func47 chk47

/-- klippe/stereonet.zero -/
def pc48 : PC := .seq (.reg [ oU 1 (.bx 3 (.v 0)),oU 2 (.cp (.k (.bool false)))] [1]) (.seq (.reg [ oU 3 (.fa 0 (.v 1)),oU 4 (.ld false 1 (.o 3 1)),oU 5 (.sc .eql (.v 4) (.k (.str [48]))),oC 6 5,⟨some 7,.fa 1 (.v 1),(some (6,true))⟩,⟨some 8,.ld false 1 (.o 7 1),(some (6,true))⟩,⟨some 9,.sc .eql (.v 8) (.k (.str [48])),(some (6,true))⟩,oU 10 (.pick (.v 6) (.v 9) (.k (.bool false))),oC 11 10,⟨some 12,.fa 2 (.v 1),(some (11,true))⟩,⟨some 13,.ld false 1 (.o 12 1),(some (11,true))⟩,⟨some 14,.sc .eql (.v 13) (.k (.str [48])),(some (11,true))⟩,oU 15 (.pick (.v 11) (.v 14) (.k (.bool false))),oC 2 15] [2]) (.ret))
def rs48 : List RV := [.t 2]
theorem chk48 : chkFn Tryz.prog Tryz.f48 1 pc48 rs48 = true := by kernel_rfl
theorem rule48 : Rl 48 1 pc48 rs48 := rlM Tryz.func48 chk48

/-- klippe/rational.Check -/
def pc51 : PC := .seq (.reg [ oU 2 (.cp (.k (.int .i64 0)))] [0]) (.seq (.reg [ oC 9 0,oU 10 (.call 82 [.v 9,.k (.str [47])]),oC 8 10,oU 11 (.ext 8 0),oU 12 (.ext 8 1),oU 13 (.ext 8 2),oC 3 11,oC 4 12,oC 5 13] [3,4,5]) (.seq (.seq (.reg [ oC 14 3,oU 15 (.call 83 [.v 14]),oU 16 (.ci .neq (.v 15) (.k (.int .i64 0)))] [3,4,5,16]) (.cnd (.v 16) (.seq (.reg [ oU 2 (.cp (.k (.int .i64 2)))] [2]) (.ret)) (.skip))) (.seq (.seq (.reg [ oC 17 5,oU 18 (.not (.v 17))] [3,4,18]) (.cnd (.v 18) (.seq (.reg [ oU 2 (.cp (.k (.int .i64 0)))] [2]) (.ret)) (.skip))) (.seq (.reg [ oC 19 3,oC 20 4,oC 6 19,oC 7 20] [6,7]) (.seq (.seq (.reg [ oC 21 7,oU 22 (.call 83 [.v 21]),oU 23 (.ci .neq (.v 22) (.k (.int .i64 0))),oC 24 23,⟨some 25,.cp (.v 7),(some (24,false))⟩,⟨some 26,.call 84 [.v 25,.k (.str [49])],(some (24,false))⟩,⟨some 27,.ci .leq (.v 26) (.k (.int .i64 0)),(some (24,false))⟩,oU 28 (.pick (.v 24) (.k (.bool true)) (.v 27)),oC 29 28,⟨some 30,.cp (.v 6),(some (29,false))⟩,⟨some 31,.sc .eql (.v 30) (.k (.str [48])),(some (29,false))⟩,oU 32 (.pick (.v 29) (.k (.bool true)) (.v 31)),oC 33 32,⟨some 34,.cp (.v 6),(some (33,false))⟩,⟨some 35,.cp (.v 7),(some (33,false))⟩,⟨some 36,.call 85 [.v 34,.v 35],(some (33,false))⟩,⟨some 37,.sc .neq (.v 36) (.k (.str [49])),(some (33,false))⟩,oU 38 (.pick (.v 33) (.k (.bool true)) (.v 37))] [38]) (.cnd (.v 38) (.seq (.reg [ oU 2 (.cp (.k (.int .i64 2)))] [2]) (.ret)) (.skip))) (.seq (.reg [ oU 2 (.cp (.k (.int .i64 0)))] [2]) (.ret)))))))
def rs51 : List RV := [.t 2]
theorem chk51 : chkFn Tryz.prog Tryz.f51 1 pc51 rs51 = true := by kernel_rfl
theorem rule51 : Rl 51 1 pc51 rs51 := rlM Tryz.func51 chk51

/-- klippe/rational.Sign -/
def pc52 : PC := .seq (.reg [ oU 2 (.cp (.k (.int .i64 0)))] [0]) (.seq (.blk 0 (.seq (.reg [ oC 4 0,oU 5 (.sc .eql (.v 4) (.k (.str [48]))),oC 3 5] [0,3]) (.cnd (.v 3) (.seq (.reg [ oU 2 (.cp (.k (.int .i64 0)))] [2]) (.ret)) (.seq (.reg [ oC 7 0,oU 8 (.lenS (.v 7)),oU 9 (.ci .gtr (.v 8) (.k (.int .i64 0))),oC 10 9,⟨some 11,.cp (.v 0),(some (10,true))⟩,⟨some 12,.ix (.v 11) (.k (.int .i64 0)),(some (10,true))⟩,⟨some 13,.ci .eql (.v 12) (.k (.int .u8 45)),(some (10,true))⟩,oU 14 (.pick (.v 10) (.v 13) (.k (.bool false))),oC 6 14] [6]) (.cnd (.v 6) (.seq (.reg [ oU 2 (.cp (.k (.int .i64 (-1))))] [2]) (.ret)) (.skip)))))) (.seq (.reg [ oU 2 (.cp (.k (.int .i64 1)))] [2]) (.ret)))
def rs52 : List RV := [.t 2]
theorem chk52 : chkFn Tryz.prog Tryz.f52 1 pc52 rs52 = true := by kernel_rfl
theorem rule52 : Rl 52 1 pc52 rs52 := rlM Tryz.func52 chk52

/-- klippe/rational.Compare -/
def pc53 : PC := .seq (.reg [ oU 4 (.cp (.k (.int .i64 0)))] [0,1]) (.seq (.seq (.reg [ oC 17 0,oC 18 1,oU 19 (.sc .eql (.v 17) (.v 18))] [0,1,19]) (.cnd (.v 19) (.seq (.reg [ oU 4 (.cp (.k (.int .i64 0)))] [4]) (.ret)) (.skip))) (.seq (.seq (.reg [ oC 21 0,oU 22 (.call 86 [.v 21]),oC 20 22,oU 23 (.ext 20 0),oU 24 (.ext 20 1),oU 25 (.ext 20 2),oC 5 23,oC 6 24,oC 7 25] [0,1,5,6,7]) (.seq (.reg [ oC 26 7] [0,1,5,6,26]) (.cnd (.v 26) (.seq (.reg [ oC 28 1,oU 29 (.call 86 [.v 28]),oC 27 29,oU 30 (.ext 27 0),oU 31 (.ext 27 1),oU 32 (.ext 27 2),oC 8 30,oC 9 31,oC 10 32] [0,1,5,6,8,9,10]) (.seq (.reg [ oC 33 10] [0,1,5,6,8,9,33]) (.cnd (.v 33) (.seq (.seq (.reg [ oC 34 5,oC 35 9,oU 36 (.ari .mul .i64 (.v 34) (.v 35)),oC 37 8,oC 38 6,oU 39 (.ari .mul .i64 (.v 37) (.v 38)),oC 11 36,oC 12 39] [11,12]) (.blk 0 (.seq (.reg [ oC 41 11,oC 42 12,oU 43 (.ci .lss (.v 41) (.v 42)),oC 40 43] [11,12,40]) (.cnd (.v 40) (.seq (.reg [ oU 4 (.cp (.k (.int .i64 (-1))))] [4]) (.ret)) (.seq (.reg [ oC 45 11,oC 46 12,oU 47 (.ci .gtr (.v 45) (.v 46)),oC 44 47] [44]) (.cnd (.v 44) (.seq (.reg [ oU 4 (.cp (.k (.int .i64 1)))] [4]) (.ret)) (.skip))))))) (.seq (.reg [ oU 4 (.cp (.k (.int .i64 0)))] [4]) (.ret))) (.skip)))) (.skip)))) (.seq (.reg [ oC 49 0,oU 50 (.call 87 [.v 49]),oC 48 50,oU 51 (.ext 48 0),oU 52 (.ext 48 1),oC 13 51,oC 14 52] [1,13,14]) (.seq (.reg [ oC 54 1,oU 55 (.call 87 [.v 54]),oC 53 55,oU 56 (.ext 53 0),oU 57 (.ext 53 1),oC 15 56,oC 16 57] [13,14,15,16]) (.seq (.reg [ oC 58 13,oC 59 16,oU 60 (.call 88 [.v 58,.v 59]),oC 61 15,oC 62 14,oU 63 (.call 88 [.v 61,.v 62]),oU 64 (.call 84 [.v 60,.v 63]),oC 4 64] [4]) (.ret))))))
def rs53 : List RV := [.t 4]
theorem chk53 : chkFn Tryz.prog Tryz.f53 2 pc53 rs53 = true := by kernel_rfl
theorem rule53 : Rl 53 2 pc53 rs53 := rlM Tryz.func53 chk53

/-- klippe/rational.Mul -/
def pc54 : PC := .seq (.reg [ oU 4 (.cp (.k (.str [])))] [0,1]) (.seq (.blk 0 (.seq (.seq (.reg [ oC 16 0,oU 17 (.sc .eql (.v 16) (.k (.str [48]))),oC 15 17] [0,1,15]) (.cnd (.v 15) (.skip) (.reg [ oC 18 1,oU 19 (.sc .eql (.v 18) (.k (.str [48]))),oC 15 19] [0,1,15]))) (.cnd (.v 15) (.seq (.reg [ oU 4 (.cp (.k (.str [48])))] [4]) (.ret)) (.seq (.reg [ oC 21 0,oU 22 (.sc .eql (.v 21) (.k (.str [49]))),oC 20 22] [0,1,20]) (.cnd (.v 20) (.seq (.reg [ oC 23 1,oC 4 23] [4]) (.ret)) (.seq (.reg [ oC 25 1,oU 26 (.sc .eql (.v 25) (.k (.str [49]))),oC 24 26] [0,1,24]) (.cnd (.v 24) (.seq (.reg [ oC 27 0,oC 4 27] [4]) (.ret)) (.skip)))))))) (.seq (.seq (.reg [ oC 29 0,oU 30 (.call 86 [.v 29]),oC 28 30,oU 31 (.ext 28 0),oU 32 (.ext 28 1),oU 33 (.ext 28 2),oC 5 31,oC 6 32,oC 7 33] [0,1,5,6,7]) (.seq (.reg [ oC 34 7] [0,1,5,6,34]) (.cnd (.v 34) (.seq (.reg [ oC 36 1,oU 37 (.call 86 [.v 36]),oC 35 37,oU 38 (.ext 35 0),oU 39 (.ext 35 1),oU 40 (.ext 35 2),oC 8 38,oC 9 39,oC 10 40] [0,1,5,6,8,9,10]) (.seq (.reg [ oC 41 10] [0,1,5,6,8,9,41]) (.cnd (.v 41) (.seq (.reg [ oC 42 5,oC 43 8,oU 44 (.ari .mul .i64 (.v 42) (.v 43)),oC 45 6,oC 46 9,oU 47 (.ari .mul .i64 (.v 45) (.v 46)),oU 48 (.call 89 [.v 44,.v 47]),oC 4 48] [4]) (.ret)) (.skip)))) (.skip)))) (.seq (.reg [ oC 50 0,oU 51 (.call 87 [.v 50]),oC 49 51,oU 52 (.ext 49 0),oU 53 (.ext 49 1),oC 11 52,oC 12 53] [1,11,12]) (.seq (.reg [ oC 55 1,oU 56 (.call 87 [.v 55]),oC 54 56,oU 57 (.ext 54 0),oU 58 (.ext 54 1),oC 13 57,oC 14 58] [11,12,13,14]) (.seq (.reg [ oC 59 11,oC 60 13,oU 61 (.call 88 [.v 59,.v 60]),oC 62 12,oC 63 14,oU 64 (.call 88 [.v 62,.v 63]),oU 65 (.call 90 [.v 61,.v 64]),oC 4 65] [4]) (.ret))))))
def rs54 : List RV := [.t 4]
theorem chk54 : chkFn Tryz.prog Tryz.f54 2 pc54 rs54 = true := by kernel_rfl
theorem rule54 : Rl 54 2 pc54 rs54 := rlM Tryz.func54 chk54

/-- klippe/stereonet.dot -/
def pc55 : PC := .seq (.reg [ oU 2 (.bx 3 (.v 0)),oU 3 (.bx 3 (.v 1)),oU 4 (.cp (.k (.str [])))] [2,3]) (.seq (.reg [ oU 5 (.fa 0 (.v 2)),oU 6 (.ld false 1 (.o 5 2)),oU 7 (.fa 0 (.v 3)),oU 8 (.ld false 1 (.o 7 3)),oU 9 (.call 54 [.v 6,.v 8]),oU 10 (.fa 1 (.v 2)),oU 11 (.ld false 1 (.o 10 2)),oU 12 (.fa 1 (.v 3)),oU 13 (.ld false 1 (.o 12 3)),oU 14 (.call 54 [.v 11,.v 13]),oU 15 (.call 91 [.v 9,.v 14]),oU 16 (.fa 2 (.v 2)),oU 17 (.ld false 1 (.o 16 2)),oU 18 (.fa 2 (.v 3)),oU 19 (.ld false 1 (.o 18 3)),oU 20 (.call 54 [.v 17,.v 19]),oU 21 (.call 91 [.v 15,.v 20]),oC 4 21] [4]) (.ret))
def rs55 : List RV := [.t 4]
theorem chk55 : chkFn Tryz.prog Tryz.f55 2 pc55 rs55 = true := by kernel_rfl
theorem rule55 : Rl 55 2 pc55 rs55 := rlM Tryz.func55 chk55

/-- klippe/klipperef02.Parts -/
def pc56 : PC := .seq (.reg [ oU 2 (.cp (.k (.str []))),oU 3 (.cp (.k (.str [])))] [0]) (.seq (.reg [ oC 5 0,oU 6 (.call 58 [.v 5,.k (.int .u8 47)]),oC 4 6] [0,4]) (.seq (.seq (.reg [ oC 7 4,oU 8 (.ci .lss (.v 7) (.k (.int .i64 0)))] [0,4,8]) (.cnd (.v 8) (.seq (.reg [ oC 9 0,oC 2 9,oU 3 (.cp (.k (.str [49])))] [2,3]) (.ret)) (.skip))) (.seq (.reg [ oC 10 0,oC 11 4,oU 12 (.slS (.v 10) none (some (.v 11))),oC 13 0,oC 14 4,oU 15 (.ari .add .i64 (.v 14) (.k (.int .i64 1))),oU 16 (.slS (.v 13) (some (.v 15)) none),oC 2 12,oC 3 16] [2,3]) (.ret))))
def rs56 : List RV := [.t 2, .t 3]
theorem chk56 : chkFn Tryz.prog Tryz.f56 1 pc56 rs56 = true := by kernel_rfl
theorem rule56 : Rl 56 1 pc56 rs56 := rlM Tryz.func56 chk56

/-- klippe/klipperef01.Right -/
def pc57 : PC := .seq (.reg [ oU 2 (.cp (.k (.bool false)))] [0]) (.seq (.reg [ oC 6 0,oU 7 (.call 92 [.v 6]),oC 5 7,oU 8 (.ext 5 0),oU 9 (.ext 5 1),oC 3 8,oC 4 9] [0,4]) (.seq (.reg [ oC 10 0,oU 11 (.call 93 [.v 10]),oC 12 11,⟨some 13,.cp (.v 4),(some (12,true))⟩,⟨some 14,.lenS (.v 13),(some (12,true))⟩,⟨some 15,.ci .leq (.v 14) (.k (.int .i64 200)),(some (12,true))⟩,oU 16 (.pick (.v 12) (.v 15) (.k (.bool false))),oC 2 16] [2]) (.ret)))
def rs57 : List RV := [.t 2]
theorem chk57 : chkFn Tryz.prog Tryz.f57 1 pc57 rs57 = true := by kernel_rfl
theorem rule57 : Rl 57 1 pc57 rs57 := rlM Tryz.func57 chk57

/-- strings.IndexByte -/
def pc58 : PC := .seq (.reg [ oU 4 (.cp (.k (.int .i64 0)))] [0,1]) (.seq (.reg [ oC 5 0,oC 6 1,oU 7 (.call 94 [.v 5,.v 6]),oC 4 7] [4]) (.ret))
def rs58 : List RV := [.t 4]
theorem chk58 : chkFn Tryz.prog Tryz.f58 2 pc58 rs58 = true := by kernel_rfl
theorem rule58 : Rl 58 2 pc58 rs58 := rlM Tryz.func58 chk58

/-- klippe/klipperef01.Compare -/
def pc59 : PC := .seq (.reg [ oU 4 (.cp (.k (.int .i64 0)))] [0,1]) (.seq (.reg [ oC 5 0,oC 6 1,oU 7 (.call 96 [.v 5,.v 6]),oU 8 (.call 95 [.v 7]),oC 4 8] [4]) (.ret))
def rs59 : List RV := [.t 4]
theorem chk59 : chkFn Tryz.prog Tryz.f59 2 pc59 rs59 = true := by kernel_rfl
theorem rule59 : Rl 59 2 pc59 rs59 := rlM Tryz.func59 chk59

/-- klippe/klipperef01.Gcd -/
def pc60 : PC := .seq (.reg [ oU 4 (.cp (.k (.str [])))] [0,1]) (.seq (.reg [ oC 7 0,oU 8 (.call 97 [.v 7]),oC 9 1,oU 10 (.call 97 [.v 9]),oC 0 8,oC 1 10] [0,1]) (.seq (.blk 0 (.loop (.seq (.seq (.reg [ oC 11 1,oU 12 (.sc .neq (.v 11) (.k (.str [48])))] [0,1,12]) (.cnd (.v 12) (.skip) (.exit 0))) (.blk 1 (.seq (.reg [ oC 14 0,oC 15 1,oU 16 (.call 98 [.v 14,.v 15]),oC 13 16,oU 17 (.ext 13 0),oU 18 (.ext 13 1),oC 5 17,oC 6 18] [1,6]) (.reg [ oC 19 1,oC 20 6,oC 0 19,oC 1 20] [0,1])))))) (.seq (.reg [ oC 21 0,oC 4 21] [4]) (.ret))))
def rs60 : List RV := [.t 4]
theorem chk60 : chkFn Tryz.prog Tryz.f60 2 pc60 rs60 = true := by kernel_rfl
theorem rule60 : Rl 60 2 pc60 rs60 := rlM Tryz.func60 chk60

/-- klippe/klipperef02.Sub -/
def pc61 : PC := .seq (.reg [ oU 4 (.cp (.k (.str [])))] [0,1]) (.seq (.reg [ oC 5 0,oC 6 1,oU 7 (.call 29 [.v 6]),oU 8 (.call 99 [.v 5,.v 7]),oC 4 8] [4]) (.ret))
def rs61 : List RV := [.t 4]
theorem chk61 : chkFn Tryz.prog Tryz.f61 2 pc61 rs61 = true := by kernel_rfl
theorem rule61 : Rl 61 2 pc61 rs61 := rlM Tryz.func61 chk61

/-- klippe/klipperef10.Dot -/
def pc62 : PC := .seq (.reg [ oU 2 (.bx 3 (.v 0)),oU 3 (.bx 3 (.v 1)),oU 4 (.cp (.k (.str [])))] [2,3]) (.seq (.reg [ oU 5 (.ld true 3 (.v 2)),oU 6 (.call 76 [.v 5]),oU 7 (.ld true 3 (.v 3)),oU 8 (.call 76 [.v 7]),oU 9 (.call 100 [.v 6,.v 8]),oC 4 9] [4]) (.ret))
def rs62 : List RV := [.t 4]
theorem chk62 : chkFn Tryz.prog Tryz.f62 2 pc62 rs62 = true := by kernel_rfl
theorem rule62 : Rl 62 2 pc62 rs62 := rlM Tryz.func62 chk62

/-- klippe/klipperef02.Mul -/
def pc63 : PC := .seq (.reg [ oU 4 (.cp (.k (.str [])))] [0,1]) (.seq (.seq (.reg [ oC 16 0,oU 17 (.call 101 [.v 16]),oC 15 17,oU 18 (.ext 15 0),oU 19 (.ext 15 1),oU 20 (.ext 15 2),oC 5 18,oC 6 19,oC 7 20] [0,1,5,6,7]) (.seq (.reg [ oC 21 7] [0,1,5,6,21]) (.cnd (.v 21) (.seq (.reg [ oC 23 1,oU 24 (.call 101 [.v 23]),oC 22 24,oU 25 (.ext 22 0),oU 26 (.ext 22 1),oU 27 (.ext 22 2),oC 8 25,oC 9 26,oC 10 27] [0,1,5,6,8,9,10]) (.seq (.reg [ oC 28 10] [0,1,5,6,8,9,28]) (.cnd (.v 28) (.seq (.reg [ oC 29 5,oC 30 8,oU 31 (.ari .mul .i64 (.v 29) (.v 30)),oC 32 6,oC 33 9,oU 34 (.ari .mul .i64 (.v 32) (.v 33)),oU 35 (.call 102 [.v 31,.v 34]),oC 4 35] [4]) (.ret)) (.skip)))) (.skip)))) (.seq (.reg [ oC 37 0,oU 38 (.call 56 [.v 37]),oC 36 38,oU 39 (.ext 36 0),oU 40 (.ext 36 1),oC 11 39,oC 12 40] [1,11,12]) (.seq (.reg [ oC 42 1,oU 43 (.call 56 [.v 42]),oC 41 43,oU 44 (.ext 41 0),oU 45 (.ext 41 1),oC 13 44,oC 14 45] [11,12,13,14]) (.seq (.reg [ oC 46 11,oC 47 13,oU 48 (.call 103 [.v 46,.v 47]),oC 49 12,oC 50 14,oU 51 (.call 103 [.v 49,.v 50]),oU 52 (.call 64 [.v 48,.v 51]),oC 4 52] [4]) (.ret)))))
def rs63 : List RV := [.t 4]
theorem chk63 : chkFn Tryz.prog Tryz.f63 2 pc63 rs63 = true := by kernel_rfl
theorem rule63 : Rl 63 2 pc63 rs63 := rlM Tryz.func63 chk63

/-- klippe/klipperef02.Fraction -/
def pc64 : PC := .seq (.reg [ oU 4 (.cp (.k (.str [])))] [0,1]) (.seq (.seq (.reg [ oC 6 0,oU 7 (.lenS (.v 6)),oU 8 (.ci .leq (.v 7) (.k (.int .i64 9))),oC 9 8,⟨some 10,.cp (.v 1),(some (9,true))⟩,⟨some 11,.lenS (.v 10),(some (9,true))⟩,⟨some 12,.ci .leq (.v 11) (.k (.int .i64 9)),(some (9,true))⟩,oU 13 (.pick (.v 9) (.v 12) (.k (.bool false)))] [0,1,13]) (.cnd (.v 13) (.seq (.reg [ oC 14 0,oC 15 1,oU 16 (.call 104 [.v 14,.v 15]),oC 4 16] [4]) (.ret)) (.skip))) (.seq (.seq (.reg [ oC 17 1,oU 18 (.call 95 [.v 17]),oU 19 (.ci .lss (.v 18) (.k (.int .i64 0)))] [0,1,19]) (.cnd (.v 19) (.reg [ oC 20 0,oU 21 (.call 105 [.v 20]),oC 22 1,oU 23 (.call 105 [.v 22]),oC 0 21,oC 1 23] [0,1]) (.skip))) (.seq (.reg [ oC 24 0,oC 25 1,oU 26 (.call 60 [.v 24,.v 25]),oC 5 26] [0,1,5]) (.seq (.reg [ oC 28 0,oC 29 5,oU 30 (.call 98 [.v 28,.v 29]),oC 27 30,oU 31 (.ext 27 0),oU 32 (.ext 27 1),oC 0 31] [0,1,5]) (.seq (.reg [ oC 34 1,oC 35 5,oU 36 (.call 98 [.v 34,.v 35]),oC 33 36,oU 37 (.ext 33 0),oU 38 (.ext 33 1),oC 1 37] [0,1]) (.seq (.seq (.reg [ oC 39 1,oU 40 (.sc .eql (.v 39) (.k (.str [49])))] [0,1,40]) (.cnd (.v 40) (.seq (.reg [ oC 41 0,oC 4 41] [4]) (.ret)) (.skip))) (.seq (.reg [ oC 42 0,oU 43 (.cat (.v 42) (.k (.str [47]))),oC 44 1,oU 45 (.cat (.v 43) (.v 44)),oC 4 45] [4]) (.ret))))))))
def rs64 : List RV := [.t 4]
theorem chk64 : chkFn Tryz.prog Tryz.f64 2 pc64 rs64 = true := by kernel_rfl
theorem rule64 : Rl 64 2 pc64 rs64 := rlM Tryz.func64 chk64

/-- klippe/klipperef01.Of -/
def pc65 : PC := .seq (.reg [ oU 2 (.cp (.k (.str [])))] [0]) (.seq (.reg [ oC 3 0,oU 4 (.call 106 [.v 3]),oC 2 4] [2]) (.ret))
def rs65 : List RV := [.t 2]
theorem chk65 : chkFn Tryz.prog Tryz.f65 1 pc65 rs65 = true := by kernel_rfl
theorem rule65 : Rl 65 1 pc65 rs65 := rlM Tryz.func65 chk65

/-- klippe/rational.Neg -/
def pc67 : PC := .seq (.reg [ oU 2 (.cp (.k (.str [])))] [0]) (.seq (.seq (.reg [ oC 3 0,oU 4 (.sc .eql (.v 3) (.k (.str [48])))] [0,4]) (.cnd (.v 4) (.seq (.reg [ oC 5 0,oC 2 5] [2]) (.ret)) (.skip))) (.seq (.seq (.reg [ oC 6 0,oU 7 (.ix (.v 6) (.k (.int .i64 0))),oU 8 (.ci .eql (.v 7) (.k (.int .u8 45)))] [0,8]) (.cnd (.v 8) (.seq (.reg [ oC 9 0,oU 10 (.slS (.v 9) (some (.k (.int .i64 1))) none),oC 2 10] [2]) (.ret)) (.skip))) (.seq (.reg [ oC 11 0,oU 12 (.cat (.k (.str [45])) (.v 11)),oC 2 12] [2]) (.ret))))
def rs67 : List RV := [.t 2]
theorem chk67 : chkFn Tryz.prog Tryz.f67 1 pc67 rs67 = true := by kernel_rfl
theorem rule67 : Rl 67 1 pc67 rs67 := rlM Tryz.func67 chk67

/-- slices.IndexFunc[[]klippe/api.Vector,klippe/api.Vector] -/
def pc72 : PC := .seq (.reg [ oU 4 (.cp (.k (.int .i64 0)))] [0,1]) (.seq (.seq (.reg [ oC 6 0,oU 7 (.len (.v 6)),oU 8 (.cp (.k (.int .i64 0)))] [0,1,7,8]) (.blk 0 (.loop (.seq (.reg [ oU 9 (.ci .lss (.v 8) (.v 7))] [0,1,7,8,9]) (.seq (.cnd (.v 9) (.skip) (.exit 0)) (.seq (.blk 1 (.seq (.reg [ oC 10 8,oC 5 10] [0,1,5,7,8]) (.seq (.reg [ oC 11 1,oC 12 0,oC 13 5,oU 14 (.ia 3 (.v 12) (.v 13)),oU 15 (.ld true 3 (.v 14)),oU 16 (.callV 11 [.v 15])] [0,1,5,7,8,16]) (.cnd (.v 16) (.seq (.reg [ oC 17 5,oC 4 17] [4]) (.ret)) (.skip))))) (.reg [ oU 18 (.ari .add .i64 (.v 8) (.k (.int .i64 1))),oC 8 18] [0,1,7,8]))))))) (.seq (.reg [ oU 4 (.cp (.k (.int .i64 (-1))))] [4]) (.ret)))
def rs72 : List RV := [.t 4]
theorem chk72 : chkFn Tryz.prog Tryz.f72 2 pc72 rs72 = true := by kernel_rfl
theorem rule72 : Rl 72 2 pc72 rs72 := rlM Tryz.func72 chk72

/-- klippe/stereonet.net -/
def pc73 : PC := .seq (.reg [ oU 1 (.bx 2 (.v 0)),oU 2 (.cp (.k (.int .i64 0)))] [1]) (.seq (.blk 0 (.seq (.reg [ oU 4 (.fa 0 (.v 1)),oU 5 (.ld false 1 (.o 4 1)),oU 6 (.ci .neq (.v 5) (.k (.int .i64 1))),oC 7 6,⟨some 8,.fa 0 (.v 1),(some (7,true))⟩,⟨some 9,.ld false 1 (.o 8 1),(some (7,true))⟩,⟨some 10,.ci .neq (.v 9) (.k (.int .i64 2)),(some (7,true))⟩,oU 11 (.pick (.v 7) (.v 10) (.k (.bool false))),oC 3 11] [1,3]) (.cnd (.v 3) (.seq (.reg [ oU 2 (.cp (.k (.int .i64 12)))] [2]) (.ret)) (.seq (.reg [ oU 13 (.fa 1 (.v 1)),oU 14 (.ld false 1 (.o 13 1)),oU 15 (.ci .lss (.v 14) (.k (.int .i64 1))),oC 16 15,⟨some 17,.fa 1 (.v 1),(some (16,false))⟩,⟨some 18,.ld false 1 (.o 17 1),(some (16,false))⟩,⟨some 19,.ci .gtr (.v 18) (.k (.int .i64 1000)),(some (16,false))⟩,oU 20 (.pick (.v 16) (.k (.bool true)) (.v 19)),oC 12 20] [12]) (.cnd (.v 12) (.seq (.reg [ oU 2 (.cp (.k (.int .i64 3)))] [2]) (.ret)) (.skip)))))) (.seq (.reg [ oU 2 (.cp (.k (.int .i64 0)))] [2]) (.ret)))
def rs73 : List RV := [.t 2]
theorem chk73 : chkFn Tryz.prog Tryz.f73 1 pc73 rs73 = true := by kernel_rfl
theorem rule73 : Rl 73 1 pc73 rs73 := rlM Tryz.func73 chk73

/-- klippe/stereonet.round -/
def pc74 : PC := .seq (.reg [ oU 3 (.bx 2 (.v 0)),oU 5 (.bx 3 (.v 2)),oU 6 (.cp (.k (.int .i64 0)))] [1,3,5]) (.seq (.reg [ oU 12 (.fa 1 (.v 3)),oU 13 (.ld false 1 (.o 12 3)),oU 14 (.ng .i64 (.v 13)),oU 15 (.fa 1 (.v 3)),oU 16 (.ld false 1 (.o 15 3)),oC 7 14,oC 8 16] [1,3,5,7,8]) (.seq (.blk 0 (.loop (.seq (.seq (.reg [ oC 17 7,oC 18 8,oU 19 (.ci .lss (.v 17) (.v 18))] [1,3,5,7,8,19]) (.cnd (.v 19) (.skip) (.exit 0))) (.blk 1 (.seq (.reg [ oC 20 7,oC 21 8,oC 22 7,oU 23 (.ari .sub .i64 (.v 21) (.v 22)),oU 24 (.ari .add .i64 (.v 23) (.k (.int .i64 1))),oU 25 (.ari .quo .i64 (.v 24) (.k (.int .i64 2))),oU 26 (.ari .add .i64 (.v 20) (.v 25)),oC 9 26] [1,3,5,7,8,9]) (.seq (.reg [ oC 28 9,oU 29 (.ari .mul .i64 (.k (.int .i64 2)) (.v 28)),oU 30 (.ari .sub .i64 (.v 29) (.k (.int .i64 1))),oU 31 (.call 110 [.v 30,.k (.int .i64 2)]),oC 27 31,oU 32 (.ext 27 0),oU 33 (.ext 27 1),oC 10 32,oC 11 33] [1,3,5,7,8,9,10]) (.seq (.reg [ oU 34 (.ld true 2 (.v 3)),oC 35 1,oU 36 (.ld true 3 (.v 5)),oC 37 10,oU 38 (.call 111 [.v 34,.v 35,.v 36,.v 37])] [1,3,5,7,8,9,38]) (.cnd (.v 38) (.reg [ oC 39 9,oC 7 39] [1,3,5,7,8]) (.reg [ oC 40 9,oU 41 (.ari .sub .i64 (.v 40) (.k (.int .i64 1))),oC 8 41] [1,3,5,7,8]))))))))) (.seq (.reg [ oC 42 7,oC 6 42] [6]) (.ret))))
def rs74 : List RV := [.t 6]
theorem chk74 : chkFn Tryz.prog Tryz.f74 3 pc74 rs74 = true := by kernel_rfl
theorem rule74 : Rl 74 3 pc74 rs74 := rlM Tryz.func74 chk74

/-- klippe/klipperef06.Numbers -/
def pc75 : PC := .seq (.reg [ oU 2 (.cp (.k (.bool false)))] [0]) (.seq (.seq (.reg [ oU 3 (.cp (.k (.int .i64 0)))] [0,3]) (.blk 0 (.loop (.seq (.seq (.reg [ oC 4 3,oC 5 0,oU 6 (.len (.v 5)),oU 7 (.ci .lss (.v 4) (.v 6))] [0,3,7]) (.cnd (.v 7) (.skip) (.exit 0))) (.seq (.blk 1 (.seq (.reg [ oC 10 0,oC 11 3,oU 12 (.ia 1 (.v 10) (.v 11)),oU 13 (.ld false 1 (.v 12)),oU 14 (.call 21 [.v 13]),oU 15 (.not (.v 14))] [0,3,15]) (.cnd (.v 15) (.seq (.reg [ oU 2 (.cp (.k (.bool false)))] [2]) (.ret)) (.skip)))) (.reg [ oC 8 3,oU 9 (.ari .add .i64 (.v 8) (.k (.int .i64 1))),oC 3 9] [0,3])))))) (.seq (.reg [ oU 2 (.cp (.k (.bool true)))] [2]) (.ret)))
def rs75 : List RV := [.t 2]
theorem chk75 : chkFn Tryz.prog Tryz.f75 1 pc75 rs75 = true := by kernel_rfl
theorem rule75 : Rl 75 1 pc75 rs75 := rlM Tryz.func75 chk75

/-- klippe/klipperef10.list -/
def pc76 : PC := .seq (.reg [ oU 1 (.bx 3 (.v 0)),oU 2 (.nil 24)] [1]) (.seq (.reg [ oU 3 (.fa 0 (.v 1)),oU 4 (.ld false 1 (.o 3 1)),oU 5 (.fa 1 (.v 1)),oU 6 (.ld false 1 (.o 5 1)),oU 7 (.fa 2 (.v 1)),oU 8 (.ld false 1 (.o 7 1)),oU 9 (.bldS 24 [.str []] 3 [(0,1,.v 4),(1,1,.v 6),(2,1,.v 8)]),oU 2 (.tk 9)] [2]) (.ret))
def rs76 : List RV := [.t 2]
theorem chk76 : chkFn Tryz.prog Tryz.f76 1 pc76 rs76 = true := by kernel_rfl
theorem rule76 : Rl 76 1 pc76 rs76 := rlM Tryz.func76 chk76

/-- klippe/klippelaw18.reaches -/
def pc77 : PC := .seq (.reg [ oU 4 (.bx 2 (.v 0)),oU 5 (.bx 3 (.v 1)),oU 8 (.cp (.k (.bool false)))] [2,3,4,5]) (.seq (.reg [ oU 18 (.ld true 3 (.v 5)),oU 19 (.ld true 3 (.v 5)),oU 20 (.call 24 [.v 18,.v 19]),oC 9 20] [2,3,4,5,9]) (.seq (.reg [ oU 21 (.fa 2 (.v 5)),oU 22 (.ld false 1 (.o 21 5)),oU 23 (.call 29 [.v 22]),oC 10 23] [2,3,4,9,10]) (.seq (.reg [ oC 24 3,oU 25 (.call 27 [.v 24,.k (.int .i64 1)]),oU 26 (.fa 1 (.v 4)),oU 27 (.ld false 1 (.o 26 4)),oU 28 (.ari .mul .i64 (.k (.int .i64 2)) (.v 27)),oU 29 (.call 27 [.v 28,.k (.int .i64 1)]),oC 11 25,oC 12 29] [2,4,9,10,11,12]) (.seq (.seq (.reg [ oU 30 (.fa 0 (.v 4)),oU 31 (.ld false 1 (.o 30 4)),oU 32 (.ci .eql (.v 31) (.k (.int .i64 1)))] [2,9,10,11,12,32]) (.cnd (.v 32) (.seq (.reg [ oC 33 11,oC 34 9,oC 35 12,oC 36 2,oU 37 (.call 25 [.v 35,.v 36]),oC 38 11,oC 39 10,oU 40 (.call 25 [.v 38,.v 39]),oU 41 (.call 61 [.v 37,.v 40]),oU 42 (.call 112 [.v 33,.v 34,.v 41]),oC 8 42] [8]) (.ret)) (.skip))) (.seq (.reg [ oC 43 12,oC 44 2,oU 45 (.call 25 [.v 43,.v 44]),oC 13 45] [9,10,11,13]) (.seq (.reg [ oC 46 11,oC 47 11,oU 48 (.call 25 [.v 46,.v 47]),oC 14 48] [9,10,11,13,14]) (.seq (.reg [ oC 49 13,oC 50 13,oU 51 (.call 25 [.v 49,.v 50]),oC 52 14,oC 53 9,oU 54 (.call 25 [.v 52,.v 53]),oU 55 (.call 61 [.v 51,.v 54]),oC 15 55] [9,10,11,13,14,15]) (.seq (.reg [ oC 56 11,oU 57 (.call 22 [.v 56]),oC 58 13,oU 59 (.call 22 [.v 58]),oC 16 57,oC 17 59] [9,10,14,15,16,17]) (.seq (.blk 0 (.seq (.reg [ oC 61 16,oU 62 (.ci .leq (.v 61) (.k (.int .i64 0))),oC 63 62,⟨some 64,.cp (.v 17),(some (63,true))⟩,⟨some 65,.ci .geq (.v 64) (.k (.int .i64 0)),(some (63,true))⟩,oU 66 (.pick (.v 63) (.v 65) (.k (.bool false))),oC 60 66] [9,10,14,15,16,17,60]) (.cnd (.v 60) (.seq (.reg [ oU 8 (.cp (.k (.bool true)))] [8]) (.ret)) (.seq (.reg [ oC 68 16,oU 69 (.ci .geq (.v 68) (.k (.int .i64 0))),oC 70 69,⟨some 71,.cp (.v 17),(some (70,true))⟩,⟨some 72,.ci .lss (.v 71) (.k (.int .i64 0)),(some (70,true))⟩,oU 73 (.pick (.v 70) (.v 72) (.k (.bool false))),oC 67 73] [9,10,14,15,16,67]) (.cnd (.v 67) (.seq (.reg [ oU 8 (.cp (.k (.bool false)))] [8]) (.ret)) (.seq (.reg [ oC 75 16,oU 76 (.ci .gtr (.v 75) (.k (.int .i64 0))),oC 74 76] [9,10,14,15,74]) (.cnd (.v 74) (.seq (.reg [ oC 77 14,oC 78 10,oU 79 (.call 25 [.v 77,.v 78]),oC 80 9,oC 81 15,oU 82 (.call 112 [.v 79,.v 80,.v 81]),oC 8 82] [8]) (.ret)) (.skip)))))))) (.seq (.reg [ oC 83 14,oC 84 10,oU 85 (.call 25 [.v 83,.v 84]),oU 86 (.call 29 [.v 85]),oC 87 9,oC 88 15,oU 89 (.call 29 [.v 88]),oU 90 (.call 112 [.v 86,.v 87,.v 89]),oC 8 90] [8]) (.ret)))))))))))
def rs77 : List RV := [.t 8]
theorem chk77 : chkFn Tryz.prog Tryz.f77 4 pc77 rs77 = true := by kernel_rfl
theorem rule77 : Rl 77 4 pc77 rs77 := rlM Tryz.func77 chk77

/-- klippe/vector.Check -/
def pc78 : PC := .seq (.reg [ oU 1 (.bx 3 (.v 0)),oU 2 (.cp (.k (.int .i64 0)))] [1]) (.seq (.reg [ oU 3 (.fa 0 (.v 1)),oU 4 (.ld false 1 (.o 3 1)),oU 5 (.fa 1 (.v 1)),oU 6 (.ld false 1 (.o 5 1)),oU 7 (.fa 2 (.v 1)),oU 8 (.ld false 1 (.o 7 1)),oU 9 (.bldS 24 [.str []] 3 [(0,1,.v 4),(1,1,.v 6),(2,1,.v 8)]),oU 10 (.call 113 [.v 9]),oC 2 10] [2]) (.ret))
def rs78 : List RV := [.t 2]
theorem chk78 : chkFn Tryz.prog Tryz.f78 1 pc78 rs78 = true := by kernel_rfl
theorem rule78 : Rl 78 1 pc78 rs78 := rlM Tryz.func78 chk78

/-- klippe/stereonet.scale -/
def pc79 : PC := .seq (.reg [ oU 2 (.bx 3 (.v 0)),oU 4 (.alloc [.str [],.str [],.str []])] [1,2,4]) (.seq (.reg [ oU 5 (.fa 0 (.v 2)),oU 6 (.ld false 1 (.o 5 2)),oC 7 1,oU 8 (.call 54 [.v 6,.v 7]),oU 9 (.fa 1 (.v 2)),oU 10 (.ld false 1 (.o 9 2)),oC 11 1,oU 12 (.call 54 [.v 10,.v 11]),oU 13 (.fa 2 (.v 2)),oU 14 (.ld false 1 (.o 13 2)),oC 15 1,oU 16 (.call 54 [.v 14,.v 15]),oU 17 (.bld [.str [],.str [],.str []] [(0,1,.v 8),(1,1,.v 12),(2,1,.v 16)]),⟨none,.st 3 (.v 4) (.v 17),none⟩] [4]) (.ret))
def rs79 : List RV := [.c 4 true 3]
theorem chk79 : chkFn Tryz.prog Tryz.f79 2 pc79 rs79 = true := by kernel_rfl
theorem rule79 : Rl 79 2 pc79 rs79 := rlM Tryz.func79 chk79

/-- klippe/rational.Sub -/
def pc81 : PC := .seq (.reg [ oU 4 (.cp (.k (.str [])))] [0,1]) (.seq (.reg [ oC 5 0,oC 6 1,oU 7 (.call 67 [.v 6]),oU 8 (.call 91 [.v 5,.v 7]),oC 4 8] [4]) (.ret))
def rs81 : List RV := [.t 4]
theorem chk81 : chkFn Tryz.prog Tryz.f81 2 pc81 rs81 = true := by kernel_rfl
theorem rule81 : Rl 81 2 pc81 rs81 := rlM Tryz.func81 chk81

/-- strings.Cut -/
def pc82 : PC := .seq (.reg [ oU 4 (.cp (.k (.str []))),oU 5 (.cp (.k (.str []))),oU 6 (.cp (.k (.bool false)))] [0,1]) (.seq (.reg [ oC 7 0,oC 8 1,oU 9 (.call 114 [.v 7,.v 8]),oU 10 (.ext 9 0),oU 11 (.ext 9 1),oU 12 (.ext 9 2),oC 4 10,oC 5 11,oC 6 12] [4,5,6]) (.ret))
def rs82 : List RV := [.t 4, .t 5, .t 6]
theorem chk82 : chkFn Tryz.prog Tryz.f82 2 pc82 rs82 = true := by kernel_rfl
theorem rule82 : Rl 82 2 pc82 rs82 := rlM Tryz.func82 chk82

/-- klippe/integer.Check -/
def pc83 : PC := .seq (.reg [ oU 2 (.cp (.k (.int .i64 0)))] [0]) (.seq (.reg [ oC 7 0,oU 8 (.call 115 [.v 7,.k (.str [45])]),oC 6 8,oU 9 (.ext 6 0),oU 10 (.ext 6 1),oC 3 9,oC 4 10] [3,4]) (.seq (.seq (.reg [ oC 11 3,oU 12 (.sc .eql (.v 11) (.k (.str []))),oC 13 12,⟨some 14,.cp (.v 3),(some (13,false))⟩,⟨some 15,.lenS (.v 14),(some (13,false))⟩,⟨some 16,.ci .gtr (.v 15) (.k (.int .i64 200)),(some (13,false))⟩,oU 17 (.pick (.v 13) (.k (.bool true)) (.v 16)),oC 18 17,⟨some 19,.cp (.v 3),(some (18,false))⟩,⟨some 20,.ix (.v 19) (.k (.int .i64 0)),(some (18,false))⟩,⟨some 21,.ci .eql (.v 20) (.k (.int .u8 48)),(some (18,false))⟩,⟨some 22,.cp (.v 21),(some (18,false))⟩,⟨some 23,.cp (.v 3),(some (22,true))⟩,⟨some 24,.lenS (.v 23),(some (22,true))⟩,⟨some 25,.ci .gtr (.v 24) (.k (.int .i64 1)),(some (22,true))⟩,⟨some 26,.cp (.v 25),(some (22,true))⟩,⟨some 27,.cp (.v 4),(some (26,false))⟩,⟨some 28,.pick (.v 26) (.k (.bool true)) (.v 27),(some (22,true))⟩,⟨some 29,.pick (.v 22) (.v 28) (.k (.bool false)),(some (18,false))⟩,oU 30 (.pick (.v 18) (.k (.bool true)) (.v 29))] [3,30]) (.cnd (.v 30) (.seq (.reg [ oU 2 (.cp (.k (.int .i64 2)))] [2]) (.ret)) (.skip))) (.seq (.seq (.reg [ oC 31 3,oU 32 (.lenS (.v 31)),oU 33 (.cp (.k (.int .i64 0)))] [3,32,33]) (.blk 0 (.loop (.seq (.reg [ oU 34 (.ci .lss (.v 33) (.v 32))] [3,32,33,34]) (.seq (.cnd (.v 34) (.skip) (.exit 0)) (.seq (.blk 1 (.seq (.reg [ oC 35 33,oC 5 35] [3,5,32,33]) (.seq (.reg [ oC 36 3,oC 37 5,oU 38 (.ix (.v 36) (.v 37)),oU 39 (.ci .lss (.v 38) (.k (.int .u8 48))),oC 40 39,⟨some 41,.cp (.v 3),(some (40,false))⟩,⟨some 42,.cp (.v 5),(some (40,false))⟩,⟨some 43,.ix (.v 41) (.v 42),(some (40,false))⟩,⟨some 44,.ci .gtr (.v 43) (.k (.int .u8 57)),(some (40,false))⟩,oU 45 (.pick (.v 40) (.k (.bool true)) (.v 44))] [3,32,33,45]) (.cnd (.v 45) (.seq (.reg [ oU 2 (.cp (.k (.int .i64 2)))] [2]) (.ret)) (.skip))))) (.reg [ oU 46 (.ari .add .i64 (.v 33) (.k (.int .i64 1))),oC 33 46] [3,32,33]))))))) (.seq (.reg [ oU 2 (.cp (.k (.int .i64 0)))] [2]) (.ret)))))
def rs83 : List RV := [.t 2]
theorem chk83 : chkFn Tryz.prog Tryz.f83 1 pc83 rs83 = true := by kernel_rfl
theorem rule83 : Rl 83 1 pc83 rs83 := rlM Tryz.func83 chk83

/-- klippe/integer.Compare -/
def pc84 : PC := .seq (.reg [ oU 4 (.cp (.k (.int .i64 0)))] [0,1]) (.seq (.reg [ oC 9 0,oU 10 (.call 116 [.v 9]),oC 11 1,oU 12 (.call 116 [.v 11]),oC 5 10,oC 6 12] [0,1,5,6]) (.seq (.seq (.reg [ oC 13 5,oC 14 6,oU 15 (.ci .neq (.v 13) (.v 14))] [0,1,5,6,15]) (.cnd (.v 15) (.seq (.seq (.reg [ oC 16 5,oC 17 6,oU 18 (.ci .lss (.v 16) (.v 17))] [18]) (.cnd (.v 18) (.seq (.reg [ oU 4 (.cp (.k (.int .i64 (-1))))] [4]) (.ret)) (.skip))) (.seq (.reg [ oU 4 (.cp (.k (.int .i64 1)))] [4]) (.ret))) (.skip))) (.seq (.reg [ oC 19 0,oU 20 (.call 117 [.v 19,.k (.str [45])]),oC 21 1,oU 22 (.call 117 [.v 21,.k (.str [45])]),oC 7 20,oC 8 22] [5,7,8]) (.seq (.seq (.reg [ oC 23 7,oU 24 (.lenS (.v 23)),oC 25 8,oU 26 (.lenS (.v 25)),oU 27 (.ci .neq (.v 24) (.v 26))] [5,7,8,27]) (.cnd (.v 27) (.seq (.seq (.reg [ oC 28 7,oU 29 (.lenS (.v 28)),oC 30 8,oU 31 (.lenS (.v 30)),oU 32 (.ci .lss (.v 29) (.v 31))] [5,32]) (.cnd (.v 32) (.seq (.reg [ oC 33 5,oU 34 (.ng .i64 (.v 33)),oC 4 34] [4]) (.ret)) (.skip))) (.seq (.reg [ oC 35 5,oC 4 35] [4]) (.ret))) (.skip))) (.seq (.reg [ oC 36 5,oC 37 7,oC 38 8,oU 39 (.call 118 [.v 37,.v 38]),oU 40 (.ari .mul .i64 (.v 36) (.v 39)),oC 4 40] [4]) (.ret))))))
def rs84 : List RV := [.t 4]
theorem chk84 : chkFn Tryz.prog Tryz.f84 2 pc84 rs84 = true := by kernel_rfl
theorem rule84 : Rl 84 2 pc84 rs84 := rlM Tryz.func84 chk84

/-- klippe/integer.Gcd -/
def pc85 : PC := .seq (.reg [ oU 4 (.cp (.k (.str [])))] [0,1]) (.seq (.seq (.reg [ oC 14 0,oU 15 (.call 119 [.v 14,.k (.int .i64 18)]),oC 13 15,oU 16 (.ext 13 0),oU 17 (.ext 13 1),oC 5 16,oC 6 17] [0,1,5,6]) (.seq (.reg [ oC 18 6] [0,1,5,18]) (.cnd (.v 18) (.seq (.reg [ oC 20 1,oU 21 (.call 119 [.v 20,.k (.int .i64 18)]),oC 19 21,oU 22 (.ext 19 0),oU 23 (.ext 19 1),oC 7 22,oC 8 23] [0,1,5,7,8]) (.seq (.reg [ oC 24 8] [0,1,5,7,24]) (.cnd (.v 24) (.seq (.blk 0 (.loop (.seq (.seq (.reg [ oC 25 7,oU 26 (.ci .neq (.v 25) (.k (.int .i64 0)))] [5,7,26]) (.cnd (.v 26) (.skip) (.exit 0))) (.blk 1 (.reg [ oC 27 7,oC 28 5,oC 29 7,oU 30 (.ari .rem .i64 (.v 28) (.v 29)),oC 5 27,oC 7 30] [5,7]))))) (.seq (.reg [ oC 31 5,oC 32 5,oU 33 (.ng .i64 (.v 32)),oU 34 (.mm true [.v 31,.v 33]),oU 35 (.call 120 [.v 34]),oC 4 35] [4]) (.ret))) (.skip)))) (.skip)))) (.seq (.reg [ oC 36 0,oU 37 (.call 121 [.v 36]),oU 38 (.fld false 1 1 (.v 37)),oC 39 1,oU 40 (.call 121 [.v 39]),oU 41 (.fld false 1 1 (.v 40)),oC 9 38,oC 10 41] [9,10]) (.seq (.blk 2 (.loop (.seq (.seq (.reg [ oC 42 10,oU 43 (.len (.v 42)),oU 44 (.ci .gtr (.v 43) (.k (.int .i64 0)))] [9,10,44]) (.cnd (.v 44) (.skip) (.exit 2))) (.blk 3 (.seq (.reg [ oC 46 9,oC 47 10,oU 48 (.call 122 [.v 46,.v 47]),oC 45 48,oU 49 (.ext 45 0),oU 50 (.ext 45 1),oC 11 49,oC 12 50] [10,12]) (.reg [ oC 51 10,oC 52 12,oC 9 51,oC 10 52] [9,10])))))) (.seq (.reg [ oC 53 9,oU 54 (.bld [.bool false,.sl 0 []] [(0,1,.k (.bool false)),(1,1,.v 53)]),oU 55 (.call 123 [.v 54]),oC 4 55] [4]) (.ret)))))
def rs85 : List RV := [.t 4]
theorem chk85 : chkFn Tryz.prog Tryz.f85 2 pc85 rs85 = true := by kernel_rfl
theorem rule85 : Rl 85 2 pc85 rs85 := rlM Tryz.func85 chk85

/-- klippe/rational.quick -/
def pc86 : PC := .seq (.reg [ oU 2 (.cp (.k (.int .i64 0))),oU 3 (.cp (.k (.int .i64 0))),oU 4 (.cp (.k (.bool false)))] [0,2,3]) (.seq (.reg [ oU 5 (.cp (.k (.int .i64 0))),oU 6 (.cp (.k (.bool false)))] [0,2,3,5,6]) (.seq (.seq (.reg [ oC 8 0,oU 9 (.lenS (.v 8)),oU 10 (.ci .gtr (.v 9) (.k (.int .i64 0))),oC 11 10,⟨some 12,.cp (.v 0),(some (11,true))⟩,⟨some 13,.ix (.v 12) (.k (.int .i64 0)),(some (11,true))⟩,⟨some 14,.ci .eql (.v 13) (.k (.int .u8 45)),(some (11,true))⟩,oU 15 (.pick (.v 11) (.v 14) (.k (.bool false)))] [0,2,3,5,6,15]) (.cnd (.v 15) (.reg [ oU 5 (.cp (.k (.int .i64 1))),oU 6 (.cp (.k (.bool true)))] [0,2,3,5,6]) (.skip))) (.seq (.reg [ oC 16 5,oC 7 16] [0,2,3,5,6,7]) (.seq (.blk 0 (.loop (.seq (.seq (.reg [ oC 17 5,oC 18 0,oU 19 (.lenS (.v 18)),oU 20 (.ci .lss (.v 17) (.v 19)),oC 21 20,⟨some 22,.cp (.v 0),(some (21,true))⟩,⟨some 23,.cp (.v 5),(some (21,true))⟩,⟨some 24,.ix (.v 22) (.v 23),(some (21,true))⟩,⟨some 25,.ci .neq (.v 24) (.k (.int .u8 47)),(some (21,true))⟩,oU 26 (.pick (.v 21) (.v 25) (.k (.bool false)))] [0,2,3,5,6,7,26]) (.cnd (.v 26) (.skip) (.exit 0))) (.seq (.blk 1 (.seq (.seq (.reg [ oC 29 5,oC 30 7,oU 31 (.ari .sub .i64 (.v 29) (.v 30)),oU 32 (.ci .eql (.v 31) (.k (.int .i64 9)))] [0,2,3,5,6,7,32]) (.cnd (.v 32) (.seq (.reg [ oU 2 (.cp (.k (.int .i64 0))),oU 3 (.cp (.k (.int .i64 0))),oU 4 (.cp (.k (.bool false)))] [2,3,4]) (.ret)) (.skip))) (.reg [ oC 33 2,oU 34 (.ari .mul .i64 (.k (.int .i64 10)) (.v 33)),oC 35 0,oC 36 5,oU 37 (.ix (.v 35) (.v 36)),oU 38 (.ari .sub .u8 (.v 37) (.k (.int .u8 48))),oU 39 (.cvI .i64 (.v 38)),oU 40 (.ari .add .i64 (.v 34) (.v 39)),oC 2 40] [0,2,3,5,6,7]))) (.reg [ oC 27 5,oU 28 (.ari .add .i64 (.v 27) (.k (.int .i64 1))),oC 5 28] [0,2,3,5,6,7]))))) (.seq (.seq (.reg [ oC 41 6] [0,2,3,5,41]) (.cnd (.v 41) (.reg [ oC 42 2,oU 43 (.ng .i64 (.v 42)),oC 2 43] [0,2,3,5]) (.skip))) (.seq (.seq (.reg [ oC 44 5,oC 45 0,oU 46 (.lenS (.v 45)),oU 47 (.ci .eql (.v 44) (.v 46))] [0,2,3,5,47]) (.cnd (.v 47) (.seq (.reg [ oC 48 2,oC 2 48,oU 3 (.cp (.k (.int .i64 1))),oU 4 (.cp (.k (.bool true)))] [2,3,4]) (.ret)) (.skip))) (.seq (.reg [ oC 49 5,oU 50 (.ari .add .i64 (.v 49) (.k (.int .i64 1))),oC 7 50] [0,2,3,5,7]) (.seq (.seq (.reg [ oC 51 5,oU 52 (.ari .add .i64 (.v 51) (.k (.int .i64 1))),oC 5 52] [0,2,3,5,7]) (.blk 2 (.loop (.seq (.seq (.reg [ oC 53 5,oC 54 0,oU 55 (.lenS (.v 54)),oU 56 (.ci .lss (.v 53) (.v 55))] [0,2,3,5,7,56]) (.cnd (.v 56) (.skip) (.exit 2))) (.seq (.blk 3 (.seq (.seq (.reg [ oC 59 5,oC 60 7,oU 61 (.ari .sub .i64 (.v 59) (.v 60)),oU 62 (.ci .eql (.v 61) (.k (.int .i64 9)))] [0,2,3,5,7,62]) (.cnd (.v 62) (.seq (.reg [ oU 2 (.cp (.k (.int .i64 0))),oU 3 (.cp (.k (.int .i64 0))),oU 4 (.cp (.k (.bool false)))] [2,3,4]) (.ret)) (.skip))) (.reg [ oC 63 3,oU 64 (.ari .mul .i64 (.k (.int .i64 10)) (.v 63)),oC 65 0,oC 66 5,oU 67 (.ix (.v 65) (.v 66)),oU 68 (.ari .sub .u8 (.v 67) (.k (.int .u8 48))),oU 69 (.cvI .i64 (.v 68)),oU 70 (.ari .add .i64 (.v 64) (.v 69)),oC 3 70] [0,2,3,5,7]))) (.reg [ oC 57 5,oU 58 (.ari .add .i64 (.v 57) (.k (.int .i64 1))),oC 5 58] [0,2,3,5,7])))))) (.seq (.reg [ oC 71 2,oC 72 3,oC 2 71,oC 3 72,oU 4 (.cp (.k (.bool true)))] [2,3,4]) (.ret))))))))))
def rs86 : List RV := [.t 2, .t 3, .t 4]
theorem chk86 : chkFn Tryz.prog Tryz.f86 1 pc86 rs86 = true := by kernel_rfl
theorem rule86 : Rl 86 1 pc86 rs86 := rlM Tryz.func86 chk86

/-- klippe/rational.Parts -/
def pc87 : PC := .seq (.reg [ oU 2 (.cp (.k (.str []))),oU 3 (.cp (.k (.str [])))] [0]) (.seq (.reg [ oC 8 0,oU 9 (.call 82 [.v 8,.k (.str [47])]),oC 7 9,oU 10 (.ext 7 0),oU 11 (.ext 7 1),oU 12 (.ext 7 2),oC 4 10,oC 5 11,oC 6 12] [4,5,6]) (.seq (.seq (.reg [ oC 13 6,oU 14 (.not (.v 13))] [4,5,14]) (.cnd (.v 14) (.seq (.reg [ oC 15 4,oC 2 15,oU 3 (.cp (.k (.str [49])))] [2,3]) (.ret)) (.skip))) (.seq (.reg [ oC 16 4,oC 17 5,oC 2 16,oC 3 17] [2,3]) (.ret))))
def rs87 : List RV := [.t 2, .t 3]
theorem chk87 : chkFn Tryz.prog Tryz.f87 1 pc87 rs87 = true := by kernel_rfl
theorem rule87 : Rl 87 1 pc87 rs87 := rlM Tryz.func87 chk87

/-- klippe/integer.Mul -/
def pc88 : PC := .seq (.reg [ oU 4 (.cp (.k (.str [])))] [0,1]) (.seq (.seq (.reg [ oC 12 0,oU 13 (.call 119 [.v 12,.k (.int .i64 9)]),oC 11 13,oU 14 (.ext 11 0),oU 15 (.ext 11 1),oC 5 14,oC 6 15] [0,1,5,6]) (.seq (.reg [ oC 16 6] [0,1,5,16]) (.cnd (.v 16) (.seq (.reg [ oC 18 1,oU 19 (.call 119 [.v 18,.k (.int .i64 9)]),oC 17 19,oU 20 (.ext 17 0),oU 21 (.ext 17 1),oC 7 20,oC 8 21] [0,1,5,7,8]) (.seq (.reg [ oC 22 8] [0,1,5,7,22]) (.cnd (.v 22) (.seq (.reg [ oC 23 5,oC 24 7,oU 25 (.ari .mul .i64 (.v 23) (.v 24)),oU 26 (.call 120 [.v 25]),oC 4 26] [4]) (.ret)) (.skip)))) (.skip)))) (.seq (.reg [ oC 27 0,oU 28 (.call 121 [.v 27]),oC 29 1,oU 30 (.call 121 [.v 29]),oU 9 (.alloc [.bool false,.sl 0 []]),oU 10 (.alloc [.bool false,.sl 0 []]),⟨none,.st 2 (.v 9) (.v 28),none⟩,⟨none,.st 2 (.v 10) (.v 30),none⟩] [9,10]) (.seq (.reg [ oU 31 (.fa 0 (.v 9)),oU 32 (.ld false 1 (.o 31 9)),oU 33 (.fa 0 (.v 10)),oU 34 (.ld false 1 (.o 33 10)),oU 35 (.eqb true (.v 32) (.v 34)),oU 36 (.fa 1 (.v 9)),oU 37 (.ld false 1 (.o 36 9)),oU 38 (.fa 1 (.v 10)),oU 39 (.ld false 1 (.o 38 10)),oU 40 (.call 124 [.v 37,.v 39]),oU 41 (.bld [.bool false,.sl 0 []] [(0,1,.v 35),(1,1,.v 40)]),oU 42 (.call 123 [.v 41]),oC 4 42] [4]) (.ret))))
def rs88 : List RV := [.t 4]
theorem chk88 : chkFn Tryz.prog Tryz.f88 2 pc88 rs88 = true := by kernel_rfl
theorem rule88 : Rl 88 2 pc88 rs88 := rlM Tryz.func88 chk88

/-- klippe/rational.small -/
def pc89 : PC := .seq (.reg [ oU 4 (.cp (.k (.str [])))] [0,1]) (.seq (.reg [ oC 7 0,oC 8 1,oC 5 7,oC 6 8] [0,1,5,6]) (.seq (.blk 0 (.loop (.seq (.seq (.reg [ oC 9 6,oU 10 (.ci .neq (.v 9) (.k (.int .i64 0)))] [0,1,5,6,10]) (.cnd (.v 10) (.skip) (.exit 0))) (.blk 1 (.reg [ oC 11 6,oC 12 5,oC 13 6,oU 14 (.ari .rem .i64 (.v 12) (.v 13)),oC 5 11,oC 6 14] [0,1,5,6]))))) (.seq (.seq (.reg [ oC 15 5,oU 16 (.ci .lss (.v 15) (.k (.int .i64 0)))] [0,1,5,16]) (.cnd (.v 16) (.reg [ oC 17 5,oU 18 (.ng .i64 (.v 17)),oC 5 18] [0,1,5]) (.skip))) (.seq (.reg [ oC 19 0,oC 20 5,oU 21 (.ari .quo .i64 (.v 19) (.v 20)),oC 22 1,oC 23 5,oU 24 (.ari .quo .i64 (.v 22) (.v 23)),oC 0 21,oC 1 24] [0,1]) (.seq (.seq (.reg [ oC 25 1,oU 26 (.ci .eql (.v 25) (.k (.int .i64 1)))] [0,1,26]) (.cnd (.v 26) (.seq (.reg [ oC 27 0,oU 28 (.call 106 [.v 27]),oC 4 28] [4]) (.ret)) (.skip))) (.seq (.reg [ oC 29 0,oU 30 (.call 106 [.v 29]),oU 31 (.cat (.v 30) (.k (.str [47]))),oC 32 1,oU 33 (.call 106 [.v 32]),oU 34 (.cat (.v 31) (.v 33)),oC 4 34] [4]) (.ret)))))))
def rs89 : List RV := [.t 4]
theorem chk89 : chkFn Tryz.prog Tryz.f89 2 pc89 rs89 = true := by kernel_rfl
theorem rule89 : Rl 89 2 pc89 rs89 := rlM Tryz.func89 chk89

/-- klippe/rational.lowest -/
def pc90 : PC := .seq (.reg [ oU 4 (.cp (.k (.str [])))] [0,1]) (.seq (.seq (.reg [ oC 6 1,oU 7 (.call 116 [.v 6]),oU 8 (.ci .lss (.v 7) (.k (.int .i64 0)))] [0,1,8]) (.cnd (.v 8) (.reg [ oC 9 0,oU 10 (.call 125 [.v 9]),oC 11 1,oU 12 (.call 125 [.v 11]),oC 0 10,oC 1 12] [0,1]) (.skip))) (.seq (.seq (.reg [ oC 13 0,oC 14 1,oU 15 (.call 85 [.v 13,.v 14]),oC 5 15] [0,1,5]) (.seq (.reg [ oC 16 5,oU 17 (.sc .neq (.v 16) (.k (.str [49])))] [0,1,5,17]) (.cnd (.v 17) (.seq (.reg [ oC 19 0,oC 20 5,oU 21 (.call 126 [.v 19,.v 20]),oC 18 21,oU 22 (.ext 18 0),oU 23 (.ext 18 1),oU 24 (.ext 18 2),oC 0 22] [0,1,5]) (.reg [ oC 26 1,oC 27 5,oU 28 (.call 126 [.v 26,.v 27]),oC 25 28,oU 29 (.ext 25 0),oU 30 (.ext 25 1),oU 31 (.ext 25 2),oC 1 29] [0,1])) (.skip)))) (.seq (.reg [ oC 32 0,oC 33 1,oU 34 (.call 127 [.v 32,.v 33]),oC 4 34] [4]) (.ret))))
def rs90 : List RV := [.t 4]
theorem chk90 : chkFn Tryz.prog Tryz.f90 2 pc90 rs90 = true := by kernel_rfl
theorem rule90 : Rl 90 2 pc90 rs90 := rlM Tryz.func90 chk90

/-- klippe/rational.Add -/
def pc91 : PC := .seq (.reg [ oU 4 (.cp (.k (.str [])))] [0,1]) (.seq (.seq (.reg [ oC 15 0,oU 16 (.sc .eql (.v 15) (.k (.str [48])))] [0,1,16]) (.cnd (.v 16) (.seq (.reg [ oC 17 1,oC 4 17] [4]) (.ret)) (.skip))) (.seq (.seq (.reg [ oC 18 1,oU 19 (.sc .eql (.v 18) (.k (.str [48])))] [0,1,19]) (.cnd (.v 19) (.seq (.reg [ oC 20 0,oC 4 20] [4]) (.ret)) (.skip))) (.seq (.seq (.reg [ oC 22 0,oU 23 (.call 86 [.v 22]),oC 21 23,oU 24 (.ext 21 0),oU 25 (.ext 21 1),oU 26 (.ext 21 2),oC 5 24,oC 6 25,oC 7 26] [0,1,5,6,7]) (.seq (.reg [ oC 27 7] [0,1,5,6,27]) (.cnd (.v 27) (.seq (.reg [ oC 29 1,oU 30 (.call 86 [.v 29]),oC 28 30,oU 31 (.ext 28 0),oU 32 (.ext 28 1),oU 33 (.ext 28 2),oC 8 31,oC 9 32,oC 10 33] [0,1,5,6,8,9,10]) (.seq (.reg [ oC 34 10] [0,1,5,6,8,9,34]) (.cnd (.v 34) (.seq (.reg [ oC 35 5,oC 36 9,oU 37 (.ari .mul .i64 (.v 35) (.v 36)),oC 38 8,oC 39 6,oU 40 (.ari .mul .i64 (.v 38) (.v 39)),oU 41 (.ari .add .i64 (.v 37) (.v 40)),oC 42 6,oC 43 9,oU 44 (.ari .mul .i64 (.v 42) (.v 43)),oU 45 (.call 89 [.v 41,.v 44]),oC 4 45] [4]) (.ret)) (.skip)))) (.skip)))) (.seq (.reg [ oC 47 0,oU 48 (.call 87 [.v 47]),oC 46 48,oU 49 (.ext 46 0),oU 50 (.ext 46 1),oC 11 49,oC 12 50] [1,11,12]) (.seq (.reg [ oC 52 1,oU 53 (.call 87 [.v 52]),oC 51 53,oU 54 (.ext 51 0),oU 55 (.ext 51 1),oC 13 54,oC 14 55] [11,12,13,14]) (.seq (.reg [ oC 56 11,oC 57 14,oU 58 (.call 88 [.v 56,.v 57]),oC 59 13,oC 60 12,oU 61 (.call 88 [.v 59,.v 60]),oU 62 (.call 128 [.v 58,.v 61]),oC 63 12,oC 64 14,oU 65 (.call 88 [.v 63,.v 64]),oU 66 (.call 90 [.v 62,.v 65]),oC 4 66] [4]) (.ret)))))))
def rs91 : List RV := [.t 4]
theorem chk91 : chkFn Tryz.prog Tryz.f91 2 pc91 rs91 = true := by kernel_rfl
theorem rule91 : Rl 91 2 pc91 rs91 := rlM Tryz.func91 chk91

/-- klippe/klipperef01.Split -/
def pc92 : PC := .seq (.reg [ oU 2 (.cp (.k (.bool false))),oU 3 (.cp (.k (.str [])))] [0]) (.seq (.reg [ oC 5 0,oC 4 5] [4]) (.seq (.seq (.reg [ oC 6 4,oU 7 (.lenS (.v 6)),oU 8 (.ci .gtr (.v 7) (.k (.int .i64 0))),oC 9 8,⟨some 10,.cp (.v 4),(some (9,true))⟩,⟨some 11,.ix (.v 10) (.k (.int .i64 0)),(some (9,true))⟩,⟨some 12,.ci .eql (.v 11) (.k (.int .u8 45)),(some (9,true))⟩,oU 13 (.pick (.v 9) (.v 12) (.k (.bool false)))] [4,13]) (.cnd (.v 13) (.seq (.reg [ oC 14 4,oU 15 (.slS (.v 14) (some (.k (.int .i64 1))) none),oU 2 (.cp (.k (.bool true))),oC 3 15] [2,3]) (.ret)) (.skip))) (.seq (.reg [ oC 16 4,oU 2 (.cp (.k (.bool false))),oC 3 16] [2,3]) (.ret))))
def rs92 : List RV := [.t 2, .t 3]
theorem chk92 : chkFn Tryz.prog Tryz.f92 1 pc92 rs92 = true := by kernel_rfl
theorem rule92 : Rl 92 1 pc92 rs92 := rlM Tryz.func92 chk92

/-- klippe/klipperef01.Canonical -/
def pc93 : PC := .seq (.reg [ oU 2 (.cp (.k (.bool false)))] [0]) (.seq (.reg [ oC 7 0,oU 8 (.call 92 [.v 7]),oC 6 8,oU 9 (.ext 6 0),oU 10 (.ext 6 1),oC 3 9,oC 4 10] [3,4]) (.seq (.seq (.reg [ oU 5 (.cp (.k (.int .i64 0)))] [3,4,5]) (.blk 0 (.loop (.seq (.seq (.reg [ oC 11 5,oC 12 4,oU 13 (.lenS (.v 12)),oU 14 (.ci .lss (.v 11) (.v 13))] [3,4,5,14]) (.cnd (.v 14) (.skip) (.exit 0))) (.seq (.blk 1 (.seq (.reg [ oC 17 4,oC 18 5,oU 19 (.ix (.v 17) (.v 18)),oU 20 (.ci .lss (.v 19) (.k (.int .u8 48))),oC 21 20,⟨some 22,.cp (.v 4),(some (21,false))⟩,⟨some 23,.cp (.v 5),(some (21,false))⟩,⟨some 24,.ix (.v 22) (.v 23),(some (21,false))⟩,⟨some 25,.ci .gtr (.v 24) (.k (.int .u8 57)),(some (21,false))⟩,oU 26 (.pick (.v 21) (.k (.bool true)) (.v 25))] [3,4,5,26]) (.cnd (.v 26) (.seq (.reg [ oU 2 (.cp (.k (.bool false)))] [2]) (.ret)) (.skip)))) (.reg [ oC 15 5,oU 16 (.ari .add .i64 (.v 15) (.k (.int .i64 1))),oC 5 16] [3,4,5])))))) (.seq (.seq (.reg [ oC 27 4,oU 28 (.lenS (.v 27)),oU 29 (.ci .eql (.v 28) (.k (.int .i64 0))),oC 30 29,⟨some 31,.cp (.v 4),(some (30,false))⟩,⟨some 32,.ix (.v 31) (.k (.int .i64 0)),(some (30,false))⟩,⟨some 33,.ci .eql (.v 32) (.k (.int .u8 48)),(some (30,false))⟩,⟨some 34,.cp (.v 33),(some (30,false))⟩,⟨some 35,.cp (.v 3),(some (34,true))⟩,⟨some 36,.cp (.v 35),(some (34,true))⟩,⟨some 37,.cp (.v 4),(some (36,false))⟩,⟨some 38,.lenS (.v 37),(some (36,false))⟩,⟨some 39,.ci .gtr (.v 38) (.k (.int .i64 1)),(some (36,false))⟩,⟨some 40,.pick (.v 36) (.k (.bool true)) (.v 39),(some (34,true))⟩,⟨some 41,.pick (.v 34) (.v 40) (.k (.bool false)),(some (30,false))⟩,oU 42 (.pick (.v 30) (.k (.bool true)) (.v 41))] [42]) (.cnd (.v 42) (.seq (.reg [ oU 2 (.cp (.k (.bool false)))] [2]) (.ret)) (.skip))) (.seq (.reg [ oU 2 (.cp (.k (.bool true)))] [2]) (.ret)))))
def rs93 : List RV := [.t 2]
theorem chk93 : chkFn Tryz.prog Tryz.f93 1 pc93 rs93 = true := by kernel_rfl
theorem rule93 : Rl 93 1 pc93 rs93 := rlM Tryz.func93 chk93

/-- klippe/klipperef01.Sign -/
def pc95 : PC := .seq (.reg [ oU 2 (.cp (.k (.int .i64 0)))] [0]) (.seq (.reg [ oC 6 0,oU 7 (.call 92 [.v 6]),oC 5 7,oU 8 (.ext 5 0),oU 9 (.ext 5 1),oC 3 8,oC 4 9] [0,3]) (.seq (.seq (.reg [ oC 10 3] [0,10]) (.cnd (.v 10) (.seq (.reg [ oU 2 (.cp (.k (.int .i64 (-1))))] [2]) (.ret)) (.skip))) (.seq (.seq (.reg [ oC 11 0,oU 12 (.sc .eql (.v 11) (.k (.str [48])))] [12]) (.cnd (.v 12) (.seq (.reg [ oU 2 (.cp (.k (.int .i64 0)))] [2]) (.ret)) (.skip))) (.seq (.reg [ oU 2 (.cp (.k (.int .i64 1)))] [2]) (.ret)))))
def rs95 : List RV := [.t 2]
theorem chk95 : chkFn Tryz.prog Tryz.f95 1 pc95 rs95 = true := by kernel_rfl
theorem rule95 : Rl 95 1 pc95 rs95 := rlM Tryz.func95 chk95

/-- klippe/klipperef01.Sub -/
def pc96 : PC := .seq (.reg [ oU 4 (.cp (.k (.str [])))] [0,1]) (.seq (.reg [ oC 5 0,oC 6 1,oU 7 (.call 105 [.v 6]),oU 8 (.call 130 [.v 5,.v 7]),oC 4 8] [4]) (.ret))
def rs96 : List RV := [.t 4]
theorem chk96 : chkFn Tryz.prog Tryz.f96 2 pc96 rs96 = true := by kernel_rfl
theorem rule96 : Rl 96 2 pc96 rs96 := rlM Tryz.func96 chk96

/-- klippe/klipperef01.Abs -/
def pc97 : PC := .seq (.reg [ oU 2 (.cp (.k (.str [])))] [0]) (.seq (.reg [ oC 6 0,oU 7 (.call 92 [.v 6]),oC 5 7,oU 8 (.ext 5 0),oU 9 (.ext 5 1),oC 3 8,oC 4 9] [4]) (.seq (.reg [ oC 10 4,oC 2 10] [2]) (.ret)))
def rs97 : List RV := [.t 2]
theorem chk97 : chkFn Tryz.prog Tryz.f97 1 pc97 rs97 = true := by kernel_rfl
theorem rule97 : Rl 97 1 pc97 rs97 := rlM Tryz.func97 chk97

/-- klippe/klipperef01.DivMod -/
def pc98 : PC := .seq (.reg [ oU 4 (.cp (.k (.str []))),oU 5 (.cp (.k (.str [])))] [0,1]) (.seq (.reg [ oC 19 0,oU 20 (.call 131 [.v 19]),oC 18 20,oU 21 (.ext 18 0),oU 22 (.ext 18 1),oC 6 21,oC 7 22] [0,1,6,7]) (.seq (.reg [ oC 24 1,oU 25 (.call 131 [.v 24]),oC 23 25,oU 26 (.ext 23 0),oU 27 (.ext 23 1),oC 8 26,oC 9 27] [0,1,6,7,8,9]) (.seq (.seq (.reg [ oC 28 7,oC 29 28,⟨some 30,.cp (.v 9),(some (29,true))⟩,oU 31 (.pick (.v 29) (.v 30) (.k (.bool false)))] [0,1,6,8,31]) (.cnd (.v 31) (.seq (.reg [ oC 32 6,oC 33 8,oU 34 (.ari .quo .i64 (.v 32) (.v 33)),oC 35 6,oC 36 8,oU 37 (.ari .rem .i64 (.v 35) (.v 36)),oC 10 34,oC 11 37] [6,8,10,11]) (.seq (.seq (.reg [ oC 38 11,oU 39 (.ci .lss (.v 38) (.k (.int .i64 0)))] [6,8,10,11,39]) (.cnd (.v 39) (.seq (.reg [ oC 40 11,oC 41 8,oC 42 8,oU 43 (.ng .i64 (.v 42)),oU 44 (.mm true [.v 41,.v 43]),oU 45 (.ari .add .i64 (.v 40) (.v 44)),oC 11 45] [6,8,11]) (.reg [ oC 46 6,oC 47 11,oU 48 (.ari .sub .i64 (.v 46) (.v 47)),oC 49 8,oU 50 (.ari .quo .i64 (.v 48) (.v 49)),oC 10 50] [10,11])) (.skip))) (.seq (.reg [ oC 51 10,oU 52 (.call 65 [.v 51]),oC 53 11,oU 54 (.call 65 [.v 53]),oC 4 52,oC 5 54] [4,5]) (.ret)))) (.skip))) (.seq (.reg [ oC 56 0,oU 57 (.call 92 [.v 56]),oC 55 57,oU 58 (.ext 55 0),oU 59 (.ext 55 1),oC 12 58,oC 13 59] [1,12,13]) (.seq (.reg [ oC 61 1,oU 62 (.call 92 [.v 61]),oC 60 62,oU 63 (.ext 60 0),oU 64 (.ext 60 1),oC 14 63,oC 15 64] [12,13,14,15]) (.seq (.reg [ oC 66 13,oU 67 (.call 133 [.v 66]),oC 68 15,oU 69 (.call 133 [.v 68]),oU 70 (.call 132 [.v 67,.v 69]),oC 65 70,oU 71 (.ext 65 0),oU 72 (.ext 65 1),oC 16 71,oC 17 72] [12,14,15,16,17]) (.seq (.seq (.reg [ oC 73 12,oC 74 73,⟨some 75,.mv (.v 17),(some (74,true))⟩,⟨some 76,.len (.o 75 17),(some (74,true))⟩,⟨some 77,.ci .gtr (.v 76) (.k (.int .i64 0)),(some (74,true))⟩,oU 78 (.pick (.v 74) (.v 77) (.k (.bool false)))] [12,14,15,16,17,78]) (.cnd (.v 78) (.reg [ oU 79 (.sh (.v 16)),oU 80 (.bldS 3 [.int .i64 0] 1 [(0,1,.k (.int .i64 1))]),oU 81 (.call 134 [.v 79,.v 80,.k (.int .i64 1),.k (.int .i64 0)]),oC 82 15,oU 83 (.call 133 [.v 82]),oU 84 (.sh (.v 17)),oU 85 (.call 134 [.v 83,.v 84,.k (.int .i64 (-1)),.k (.int .i64 0)]),oU 16 (.tk 81),oU 17 (.tk 85)] [12,14,16,17]) (.skip))) (.seq (.reg [ oC 86 12,oC 87 14,oU 88 (.eqb true (.v 86) (.v 87)),oU 89 (.tk 16),oU 90 (.call 135 [.v 88,.v 89]),oU 91 (.tk 17),oU 92 (.call 135 [.k (.bool false),.v 91]),oC 4 90,oC 5 92] [4,5]) (.ret)))))))))
def rs98 : List RV := [.t 4, .t 5]
theorem chk98 : chkFn Tryz.prog Tryz.f98 2 pc98 rs98 = true := by kernel_rfl
theorem rule98 : Rl 98 2 pc98 rs98 := rlM Tryz.func98 chk98

/-- klippe/klipperef02.Add -/
def pc99 : PC := .seq (.reg [ oU 4 (.cp (.k (.str [])))] [0,1]) (.seq (.seq (.reg [ oC 16 0,oU 17 (.call 101 [.v 16]),oC 15 17,oU 18 (.ext 15 0),oU 19 (.ext 15 1),oU 20 (.ext 15 2),oC 5 18,oC 6 19,oC 7 20] [0,1,5,6,7]) (.seq (.reg [ oC 21 7] [0,1,5,6,21]) (.cnd (.v 21) (.seq (.reg [ oC 23 1,oU 24 (.call 101 [.v 23]),oC 22 24,oU 25 (.ext 22 0),oU 26 (.ext 22 1),oU 27 (.ext 22 2),oC 8 25,oC 9 26,oC 10 27] [0,1,5,6,8,9,10]) (.seq (.reg [ oC 28 10] [0,1,5,6,8,9,28]) (.cnd (.v 28) (.seq (.reg [ oC 29 5,oC 30 9,oU 31 (.ari .mul .i64 (.v 29) (.v 30)),oC 32 8,oC 33 6,oU 34 (.ari .mul .i64 (.v 32) (.v 33)),oU 35 (.ari .add .i64 (.v 31) (.v 34)),oC 36 6,oC 37 9,oU 38 (.ari .mul .i64 (.v 36) (.v 37)),oU 39 (.call 102 [.v 35,.v 38]),oC 4 39] [4]) (.ret)) (.skip)))) (.skip)))) (.seq (.reg [ oC 41 0,oU 42 (.call 56 [.v 41]),oC 40 42,oU 43 (.ext 40 0),oU 44 (.ext 40 1),oC 11 43,oC 12 44] [1,11,12]) (.seq (.reg [ oC 46 1,oU 47 (.call 56 [.v 46]),oC 45 47,oU 48 (.ext 45 0),oU 49 (.ext 45 1),oC 13 48,oC 14 49] [11,12,13,14]) (.seq (.reg [ oC 50 11,oC 51 14,oU 52 (.call 103 [.v 50,.v 51]),oC 53 13,oC 54 12,oU 55 (.call 103 [.v 53,.v 54]),oU 56 (.call 130 [.v 52,.v 55]),oC 57 12,oC 58 14,oU 59 (.call 103 [.v 57,.v 58]),oU 60 (.call 64 [.v 56,.v 59]),oC 4 60] [4]) (.ret)))))
def rs99 : List RV := [.t 4]
theorem chk99 : chkFn Tryz.prog Tryz.f99 2 pc99 rs99 = true := by kernel_rfl
theorem rule99 : Rl 99 2 pc99 rs99 := rlM Tryz.func99 chk99

/-- klippe/klipperef06.Dot -/
def pc100 : PC := .seq (.reg [ oU 4 (.cp (.k (.str [])))] [0,1]) (.seq (.reg [ oU 5 (.cp (.k (.str [48])))] [0,1,5]) (.seq (.seq (.reg [ oU 6 (.cp (.k (.int .i64 0)))] [0,1,5,6]) (.blk 0 (.loop (.seq (.seq (.reg [ oC 7 6,oC 8 0,oU 9 (.len (.v 8)),oU 10 (.ci .lss (.v 7) (.v 9))] [0,1,5,6,10]) (.cnd (.v 10) (.skip) (.exit 0))) (.seq (.blk 1 (.reg [ oC 13 5,oC 14 0,oC 15 6,oU 16 (.ia 1 (.v 14) (.v 15)),oU 17 (.ld false 1 (.v 16)),oC 18 1,oC 19 6,oU 20 (.ia 1 (.v 18) (.v 19)),oU 21 (.ld false 1 (.v 20)),oU 22 (.call 63 [.v 17,.v 21]),oU 23 (.call 99 [.v 13,.v 22]),oC 5 23] [0,1,5,6])) (.reg [ oC 11 6,oU 12 (.ari .add .i64 (.v 11) (.k (.int .i64 1))),oC 6 12] [0,1,5,6])))))) (.seq (.reg [ oC 24 5,oC 4 24] [4]) (.ret))))
def rs100 : List RV := [.t 4]
theorem chk100 : chkFn Tryz.prog Tryz.f100 2 pc100 rs100 = true := by kernel_rfl
theorem rule100 : Rl 100 2 pc100 rs100 := rlM Tryz.func100 chk100

/-- klippe/klipperef02.brief -/
def pc101 : PC := .seq (.reg [ oU 2 (.cp (.k (.int .i64 0))),oU 3 (.cp (.k (.int .i64 0))),oU 4 (.cp (.k (.bool false)))] [0,2]) (.seq (.seq (.reg [ oC 7 0,oU 8 (.lenS (.v 7)),oU 9 (.ci .gtr (.v 8) (.k (.int .i64 9)))] [0,2,9]) (.cnd (.v 9) (.seq (.reg [ oU 2 (.cp (.k (.int .i64 0))),oU 3 (.cp (.k (.int .i64 0))),oU 4 (.cp (.k (.bool false)))] [2,3,4]) (.ret)) (.skip))) (.seq (.reg [ oU 3 (.cp (.k (.int .i64 1))),oU 5 (.cp (.k (.int .i64 0))),oU 6 (.cp (.k (.int .i64 1)))] [0,2,3,5,6]) (.seq (.seq (.reg [ oC 10 0,oU 11 (.ix (.v 10) (.k (.int .i64 0))),oU 12 (.ci .eql (.v 11) (.k (.int .u8 45)))] [0,2,3,5,6,12]) (.cnd (.v 12) (.reg [ oU 5 (.cp (.k (.int .i64 1))),oU 6 (.cp (.k (.int .i64 (-1))))] [0,2,3,5,6]) (.skip))) (.seq (.blk 0 (.loop (.seq (.seq (.reg [ oC 13 5,oC 14 0,oU 15 (.lenS (.v 14)),oU 16 (.ci .lss (.v 13) (.v 15)),oC 17 16,⟨some 18,.cp (.v 0),(some (17,true))⟩,⟨some 19,.cp (.v 5),(some (17,true))⟩,⟨some 20,.ix (.v 18) (.v 19),(some (17,true))⟩,⟨some 21,.ci .neq (.v 20) (.k (.int .u8 47)),(some (17,true))⟩,oU 22 (.pick (.v 17) (.v 21) (.k (.bool false)))] [0,2,3,5,6,22]) (.cnd (.v 22) (.skip) (.exit 0))) (.blk 1 (.reg [ oC 23 2,oU 24 (.ari .mul .i64 (.k (.int .i64 10)) (.v 23)),oC 25 0,oC 26 5,oU 27 (.ix (.v 25) (.v 26)),oU 28 (.ari .sub .u8 (.v 27) (.k (.int .u8 48))),oU 29 (.cvI .i64 (.v 28)),oU 30 (.ari .add .i64 (.v 24) (.v 29)),oC 31 5,oU 32 (.ari .add .i64 (.v 31) (.k (.int .i64 1))),oC 2 30,oC 5 32] [0,2,3,5,6]))))) (.seq (.seq (.reg [ oC 33 5,oC 34 0,oU 35 (.lenS (.v 34)),oU 36 (.ci .lss (.v 33) (.v 35))] [0,2,3,5,6,36]) (.cnd (.v 36) (.seq (.reg [ oU 3 (.cp (.k (.int .i64 0)))] [0,2,3,5,6]) (.seq (.reg [ oC 37 5,oU 38 (.ari .add .i64 (.v 37) (.k (.int .i64 1))),oC 5 38] [0,2,3,5,6]) (.blk 2 (.loop (.seq (.seq (.reg [ oC 39 5,oC 40 0,oU 41 (.lenS (.v 40)),oU 42 (.ci .lss (.v 39) (.v 41))] [0,2,3,5,6,42]) (.cnd (.v 42) (.skip) (.exit 2))) (.seq (.blk 3 (.reg [ oC 45 3,oU 46 (.ari .mul .i64 (.k (.int .i64 10)) (.v 45)),oC 47 0,oC 48 5,oU 49 (.ix (.v 47) (.v 48)),oU 50 (.ari .sub .u8 (.v 49) (.k (.int .u8 48))),oU 51 (.cvI .i64 (.v 50)),oU 52 (.ari .add .i64 (.v 46) (.v 51)),oC 3 52] [0,2,3,5,6])) (.reg [ oC 43 5,oU 44 (.ari .add .i64 (.v 43) (.k (.int .i64 1))),oC 5 44] [0,2,3,5,6]))))))) (.skip))) (.seq (.reg [ oC 53 6,oC 54 2,oU 55 (.ari .mul .i64 (.v 53) (.v 54)),oC 56 3,oC 2 55,oC 3 56,oU 4 (.cp (.k (.bool true)))] [2,3,4]) (.ret)))))))
def rs101 : List RV := [.t 2, .t 3, .t 4]
theorem chk101 : chkFn Tryz.prog Tryz.f101 1 pc101 rs101 = true := by kernel_rfl
theorem rule101 : Rl 101 1 pc101 rs101 := rlM Tryz.func101 chk101

end Go.Proofs
