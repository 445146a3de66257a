/- The readings of functions that append to fields, printed by program (mkr22f.py). Own work. -/
import Derived.Test.YtokpkgcjjbdinaaGreatDoorProg
import Derived.Test.YtokpkgcjjbdinaaGreatDoorPn
import Derived.KernelRfl
import Derived.Test.YtokpkgcjjbdinaaGreatDoorPl
import Derived.Test.YtokpkgcjjbdinaaGreatDoorSg
set_option linter.unusedVariables false
set_option linter.unusedSimpArgs false
namespace Go.Proofs
open Go Go.Pi Go.RowKit
set_option maxRecDepth 100000

/-- klippe/klippelaw40.Make -/
def pc17f : PC := .seq (.reg [
   ⟨some 1, .bx 3 (.v 0), none⟩,
   ⟨some 2, .alloc [.str [], .str [], .sl 0 [], .sl 0 []], none⟩] [1, 2])
 (.seq (.reg [
    ⟨some 7, .fa 0 (.v 1), none⟩,
    ⟨some 8, .iaA 2 1 (.o 7 1) (.k (.int .i64 0)), none⟩,
    ⟨some 9, .ld false 1 (.o 8 1), none⟩,
    ⟨some 10, .cvI .i64 (.v 9), none⟩,
    ⟨some 11, .ari .rem .i64 (.v 10) (.k (.int .i64 10)), none⟩,
    ⟨some 12, .fa 0 (.v 1), none⟩,
    ⟨some 13, .iaA 2 1 (.o 12 1) (.k (.int .i64 1)), none⟩,
    ⟨some 14, .ld false 1 (.o 13 1), none⟩,
    ⟨some 15, .cvI .i64 (.v 14), none⟩,
    ⟨some 16, .ari .rem .i64 (.v 15) (.k (.int .i64 10)), none⟩,
    ⟨some 17, .call 44 [.v 11, .v 16], none⟩,
    ⟨some 18, .bld [.str [], .str [], .sl 0 [.un], .sl 0 [.un]] [(0, 2, .v 17)], none⟩,
    ⟨some 3, .alloc [.str [], .str [], .sl 0 [.un], .sl 0 [.un]], none⟩,
    ⟨none, .st 4 (.v 3) (.v 18), none⟩] [1, 2, 3, 4000003, 5000003])
  (.seq (.seq (.reg [
      ⟨some 4, .cp (.k (.int .i64 0)), none⟩] [1, 2, 3, 4, 4000003, 5000003])
    (.blk 0 (.loop (.seq (.seq (.reg [
          ⟨some 19, .cp (.v 4), none⟩,
          ⟨some 20, .fa 2 (.v 1), none⟩,
          ⟨some 21, .ld false 1 (.o 20 1), none⟩,
          ⟨some 22, .len (.v 21), none⟩,
          ⟨some 23, .ci .lss (.v 19) (.v 22), none⟩,
          ⟨some 24, .cp (.v 23), none⟩,
          ⟨some 25, .cp (.v 4), (some (24, true))⟩,
          ⟨some 26, .ci .lss (.v 25) (.k (.int .i64 4)), (some (24, true))⟩,
          ⟨some 27, .pick (.v 24) (.v 26) (.k (.bool false)), none⟩] [1, 2, 3, 4, 27, 4000003, 5000003])
        (.cnd (.v 27) (.skip)
         (.exit 0)))
       (.seq (.blk 1 (.seq (.reg [
            ⟨some 31, .fa 2 (.v 1), none⟩,
            ⟨some 32, .ld false 1 (.o 31 1), none⟩,
            ⟨some 33, .cp (.v 4), none⟩,
            ⟨some 34, .ia 2 (.v 32) (.v 33), none⟩,
            ⟨some 35, .iaA 2 1 (.v 34) (.k (.int .i64 0)), none⟩,
            ⟨some 36, .ld false 1 (.o 35 34), none⟩,
            ⟨some 37, .cvI .i64 (.v 36), none⟩,
            ⟨some 38, .ari .rem .i64 (.v 37) (.k (.int .i64 6)), none⟩,
            ⟨some 39, .call 22 [.v 38, .k (.int .i64 6)], none⟩,
            ⟨some 30, .cp (.v 39), none⟩,
            ⟨some 40, .ext 30 0, none⟩,
            ⟨some 41, .ext 30 1, none⟩,
            ⟨some 5, .cp (.v 40), none⟩,
            ⟨some 6, .cp (.v 41), none⟩] [1, 2, 3, 4, 5, 4000003, 5000003])
          (.seq (.reg [
             ⟨some 42, .faM 3 2, none⟩,
             ⟨some 43, .lgM 42 3 2, none⟩,
             ⟨some 44, .cp (.v 5), none⟩,
             ⟨some 45, .bldS 22 [.str []] 1 [(0, 1, .v 44)], none⟩,
             ⟨some 46, .app 22 1 16 (.o 43 4000003) (.v 45), none⟩,
             ⟨some 47, .faM 3 2, none⟩,
             ⟨none, .sgM 47 3 2 (.v 46) [42, 43], none⟩] [1, 2, 3, 4, 4000003, 5000003])
           (.reg [
             ⟨some 48, .faM 3 3, none⟩,
             ⟨some 49, .lgM 48 3 3, none⟩,
             ⟨some 50, .fa 2 (.v 1), none⟩,
             ⟨some 51, .ld false 1 (.o 50 1), none⟩,
             ⟨some 52, .cp (.v 4), none⟩,
             ⟨some 53, .ia 2 (.v 51) (.v 52), none⟩,
             ⟨some 54, .iaA 2 1 (.v 53) (.k (.int .i64 1)), none⟩,
             ⟨some 55, .ld false 1 (.o 54 53), none⟩,
             ⟨some 56, .cvI .i64 (.v 55), none⟩,
             ⟨some 57, .fa 2 (.v 1), none⟩,
             ⟨some 58, .ld false 1 (.o 57 1), none⟩,
             ⟨some 59, .cp (.v 4), none⟩,
             ⟨some 60, .ia 2 (.v 58) (.v 59), none⟩,
             ⟨some 61, .iaA 2 1 (.v 60) (.k (.int .i64 1)), none⟩,
             ⟨some 62, .ld false 1 (.o 61 60), none⟩,
             ⟨some 63, .cvI .i64 (.v 62), none⟩,
             ⟨some 64, .ng .i64 (.v 63), none⟩,
             ⟨some 65, .mm true [.v 56, .v 64], none⟩,
             ⟨some 66, .ari .rem .i64 (.v 65) (.k (.int .i64 6)), none⟩,
             ⟨some 67, .ari .add .i64 (.k (.int .i64 1)) (.v 66), none⟩,
             ⟨some 68, .call 58 [.v 67], none⟩,
             ⟨some 69, .bldS 22 [.str []] 1 [(0, 1, .v 68)], none⟩,
             ⟨some 70, .app 22 1 16 (.o 49 5000003) (.v 69), none⟩,
             ⟨some 71, .faM 3 3, none⟩,
             ⟨none, .sgM 71 3 3 (.v 70) [48, 49], none⟩] [1, 2, 3, 4, 4000003, 5000003]))))
        (.reg [
          ⟨some 28, .cp (.v 4), none⟩,
          ⟨some 29, .ari .add .i64 (.v 28) (.k (.int .i64 1)), none⟩,
          ⟨some 4, .cp (.v 29), none⟩] [1, 2, 3, 4, 4000003, 5000003]))))))
   (.seq (.seq (.reg [
       ⟨some 72, .faM 3 2, none⟩,
       ⟨some 73, .lgM 72 3 2, none⟩,
       ⟨some 74, .len (.o 73 4000003), none⟩,
       ⟨some 75, .ci .eql (.v 74) (.k (.int .i64 0)), none⟩] [2, 3, 75, 4000003, 5000003])
     (.cnd (.v 75) (.reg [
        ⟨some 76, .bldS 22 [.str []] 1 [(0, 1, .k (.str [48]))], none⟩,
        ⟨some 77, .bldS 22 [.str []] 1 [(0, 1, .k (.str [49]))], none⟩,
        ⟨some 78, .faM 3 2, none⟩,
        ⟨none, .sgM 78 3 2 (.v 76) [], none⟩,
        ⟨some 79, .faM 3 3, none⟩,
        ⟨none, .sgM 79 3 3 (.v 77) [78], none⟩] [2, 3, 4000003, 5000003])
      (.skip)))
    (.seq (.reg [
       ⟨some 80, .ldM 4 3 [4000003, 5000003], none⟩,
       ⟨none, .st 4 (.v 2) (.v 80), none⟩] [2])
     (.ret)))))
def rs17f : List RV := [.c 2 true 4]
theorem chk17f : chkFn Tryz.prog Tryz.f17 1 pc17f rs17f = true := by kernel_rfl
theorem rule17f {L : World → Prop} (hL : ∀ w w', L w → Below w.heap.size w w' → L w') {ds : List D} {r : D} (hr0 : aliasOf r = none) (hlen : ds.length = 1) (hp : ds.all (fun d => (aliasOf d).isNone) = true)
    (h : wC (Con Tryz.prog L) pc17f (retQ rs17f r) (initE 0 ds)) : Con Tryz.prog L 17 ds r :=
  con_chk hL Tryz.func17 chk17f hr0 hlen hp (wC_sound h)

/-- klippe/klippelaw40.of -/
def pc18f : PC := .seq (.reg [
   ⟨some 1, .bx 4 (.v 0), none⟩,
   ⟨some 2, .alloc [.sl 0 [], .sl 0 []], none⟩] [1, 2])
 (.seq (.reg [
    ⟨some 9, .fa 2 (.v 1), none⟩,
    ⟨some 10, .ld false 1 (.o 9 1), none⟩,
    ⟨some 11, .len (.v 10), none⟩,
    ⟨some 3, .cp (.v 11), none⟩] [1, 2, 3])
  (.seq (.reg [
     ⟨some 12, .fa 0 (.v 1), none⟩,
     ⟨some 13, .ld true 2 (.o 12 1), none⟩,
     ⟨some 14, .bldS 25 [.str [], .str []] 1 [(0, 2, .v 13)], none⟩,
     ⟨some 15, .fa 2 (.v 1), none⟩,
     ⟨some 16, .ld false 1 (.o 15 1), none⟩,
     ⟨some 17, .ia 1 (.v 16) (.k (.int .i64 0)), none⟩,
     ⟨some 18, .ld false 1 (.v 17), none⟩,
     ⟨some 19, .call 59 [.v 18], none⟩,
     ⟨some 20, .bldS 25 [.str [], .str []] 1 [(0, 2, .v 19)], none⟩,
     ⟨some 21, .bldQ 14 20, none⟩,
     ⟨some 4, .alloc [.sl 0 [], .sl 0 []], none⟩,
     ⟨none, .stQ 4 21, none⟩] [1, 2, 3, 4, 2000004, 3000004])
   (.seq (.seq (.reg [
       ⟨some 5, .cp (.k (.int .i64 0)), none⟩] [1, 2, 3, 4, 5, 2000004, 3000004])
     (.blk 0 (.loop (.seq (.seq (.reg [
           ⟨some 22, .cp (.v 5), none⟩,
           ⟨some 23, .cp (.v 3), none⟩,
           ⟨some 24, .ci .lss (.v 22) (.v 23), none⟩] [1, 2, 3, 4, 5, 24, 2000004, 3000004])
         (.cnd (.v 24) (.skip)
          (.exit 0)))
        (.seq (.blk 1 (.seq (.reg [
             ⟨some 27, .faM 4 0, none⟩,
             ⟨some 28, .lgM 27 4 0, none⟩,
             ⟨some 29, .faM 4 0, none⟩,
             ⟨some 30, .lgD 29 4 0, none⟩,
             ⟨some 31, .cp (.v 5), none⟩,
             ⟨some 32, .ia 2 (.v 30) (.v 31), none⟩,
             ⟨some 33, .ld true 2 (.v 32), none⟩,
             ⟨some 34, .fa 3 (.v 1), none⟩,
             ⟨some 35, .ld false 1 (.o 34 1), none⟩,
             ⟨some 36, .cp (.v 5), none⟩,
             ⟨some 37, .ia 1 (.v 35) (.v 36), none⟩,
             ⟨some 38, .ld false 1 (.v 37), none⟩,
             ⟨some 39, .fa 2 (.v 1), none⟩,
             ⟨some 40, .ld false 1 (.o 39 1), none⟩,
             ⟨some 41, .cp (.v 5), none⟩,
             ⟨some 42, .ia 1 (.v 40) (.v 41), none⟩,
             ⟨some 43, .ld false 1 (.v 42), none⟩,
             ⟨some 44, .call 16 [.v 43], none⟩,
             ⟨some 45, .call 45 [.v 33, .v 38, .v 44], none⟩,
             ⟨some 46, .bldS 25 [.str [], .str []] 1 [(0, 2, .v 45)], none⟩,
             ⟨some 47, .app 25 2 32 (.o 28 2000004) (.v 46), none⟩,
             ⟨some 48, .faM 4 0, none⟩,
             ⟨none, .sgM 48 4 0 (.v 47) [27, 28, 29], none⟩] [1, 2, 3, 4, 5, 2000004, 3000004])
           (.seq (.reg [
              ⟨some 49, .cp (.v 5), none⟩,
              ⟨some 50, .ari .add .i64 (.v 49) (.k (.int .i64 1)), none⟩,
              ⟨some 51, .cp (.v 3), none⟩,
              ⟨some 52, .ci .lss (.v 50) (.v 51), none⟩] [1, 2, 3, 4, 5, 52, 2000004, 3000004])
            (.cnd (.v 52) (.seq (.reg [
                ⟨some 53, .fa 2 (.v 1), none⟩,
                ⟨some 54, .ld false 1 (.o 53 1), none⟩,
                ⟨some 55, .cp (.v 5), none⟩,
                ⟨some 56, .ia 1 (.v 54) (.v 55), none⟩,
                ⟨some 57, .ld false 1 (.v 56), none⟩,
                ⟨some 58, .call 59 [.v 57], none⟩,
                ⟨some 59, .fa 2 (.v 1), none⟩,
                ⟨some 60, .ld false 1 (.o 59 1), none⟩,
                ⟨some 61, .cp (.v 5), none⟩,
                ⟨some 62, .ari .add .i64 (.v 61) (.k (.int .i64 1)), none⟩,
                ⟨some 63, .ia 1 (.v 60) (.v 62), none⟩,
                ⟨some 64, .ld false 1 (.v 63), none⟩,
                ⟨some 65, .call 59 [.v 64], none⟩,
                ⟨some 6, .alloc [.str [], .str []], none⟩,
                ⟨some 7, .alloc [.str [], .str []], none⟩,
                ⟨none, .st 2 (.v 6) (.v 58), none⟩,
                ⟨none, .st 2 (.v 7) (.v 65), none⟩] [1, 2, 3, 4, 5, 6, 7, 2000004, 3000004])
              (.seq (.reg [
                 ⟨some 66, .ld true 2 (.v 6), none⟩,
                 ⟨some 67, .ld true 2 (.v 7), none⟩,
                 ⟨some 68, .call 47 [.v 66, .v 67], none⟩,
                 ⟨some 69, .call 23 [.k (.str [49]), .v 68], none⟩,
                 ⟨some 70, .call 57 [.k (.str [49]), .v 69], none⟩,
                 ⟨some 8, .cp (.v 70), none⟩] [1, 2, 3, 4, 5, 6, 7, 8, 2000004, 3000004])
               (.reg [
                 ⟨some 71, .faM 4 1, none⟩,
                 ⟨some 72, .lgM 71 4 1, none⟩,
                 ⟨some 73, .cp (.v 8), none⟩,
                 ⟨some 74, .fa 0 (.v 6), none⟩,
                 ⟨some 75, .ld false 1 (.o 74 6), none⟩,
                 ⟨some 76, .fa 0 (.v 7), none⟩,
                 ⟨some 77, .ld false 1 (.o 76 7), none⟩,
                 ⟨some 78, .call 23 [.v 75, .v 77], none⟩,
                 ⟨some 79, .call 29 [.v 73, .v 78], none⟩,
                 ⟨some 80, .cp (.v 8), none⟩,
                 ⟨some 81, .fa 1 (.v 6), none⟩,
                 ⟨some 82, .ld false 1 (.o 81 6), none⟩,
                 ⟨some 83, .fa 1 (.v 7), none⟩,
                 ⟨some 84, .ld false 1 (.o 83 7), none⟩,
                 ⟨some 85, .call 23 [.v 82, .v 84], none⟩,
                 ⟨some 86, .call 29 [.v 80, .v 85], none⟩,
                 ⟨some 87, .bld [.str [], .str []] [(0, 1, .v 79), (1, 1, .v 86)], none⟩,
                 ⟨some 88, .bldS 25 [.str [], .str []] 1 [(0, 2, .v 87)], none⟩,
                 ⟨some 89, .app 25 2 32 (.o 72 3000004) (.v 88), none⟩,
                 ⟨some 90, .faM 4 1, none⟩,
                 ⟨none, .sgM 90 4 1 (.v 89) [71, 72], none⟩] [1, 2, 3, 4, 5, 2000004, 3000004])))
             (.skip)))))
         (.reg [
           ⟨some 25, .cp (.v 5), none⟩,
           ⟨some 26, .ari .add .i64 (.v 25) (.k (.int .i64 1)), none⟩,
           ⟨some 5, .cp (.v 26), none⟩] [1, 2, 3, 4, 5, 2000004, 3000004]))))))
    (.seq (.reg [
       ⟨some 91, .faM 4 1, none⟩,
       ⟨some 92, .lgM 91 4 1, none⟩,
       ⟨some 93, .fa 2 (.v 1), none⟩,
       ⟨some 94, .ld false 1 (.o 93 1), none⟩,
       ⟨some 95, .cp (.v 3), none⟩,
       ⟨some 96, .ari .sub .i64 (.v 95) (.k (.int .i64 1)), none⟩,
       ⟨some 97, .ia 1 (.v 94) (.v 96), none⟩,
       ⟨some 98, .ld false 1 (.v 97), none⟩,
       ⟨some 99, .call 59 [.v 98], none⟩,
       ⟨some 100, .bldS 25 [.str [], .str []] 1 [(0, 2, .v 99)], none⟩,
       ⟨some 101, .app 25 2 32 (.o 92 3000004) (.v 100), none⟩,
       ⟨some 102, .faM 4 1, none⟩,
       ⟨none, .sgM 102 4 1 (.v 101) [91, 92], none⟩] [2, 4, 2000004, 3000004])
     (.seq (.reg [
        ⟨some 103, .ldM 2 4 [2000004, 3000004], none⟩,
        ⟨none, .st 2 (.v 2) (.v 103), none⟩] [2])
      (.ret))))))
def rs18f : List RV := [.c 2 true 2]
theorem chk18f : chkFn Tryz.prog Tryz.f18 1 pc18f rs18f = true := by kernel_rfl
theorem rule18f {L : World → Prop} (hL : ∀ w w', L w → Below w.heap.size w w' → L w') {ds : List D} {r : D} (hr0 : aliasOf r = none) (hlen : ds.length = 1) (hp : ds.all (fun d => (aliasOf d).isNone) = true)
    (h : wC (Con Tryz.prog L) pc18f (retQ rs18f r) (initE 0 ds)) : Con Tryz.prog L 18 ds r :=
  con_chk hL Tryz.func18 chk18f hr0 hlen hp (wC_sound h)

/-- klippe/kink.Of -/
def pc43f : PC := .seq (.reg [
   ⟨some 2, .alloc [.str [], .str [], .sl 0 [], .sl 0 []], none⟩,
   ⟨some 3, .cp (.k (.int .i64 0)), none⟩] [0, 2])
 (.seq (.blk 0 (.seq (.reg [
      ⟨some 12, .cp (.v 0), none⟩,
      ⟨some 13, .len (.v 12), none⟩,
      ⟨some 14, .ci .lss (.v 13) (.k (.int .i64 2)), none⟩,
      ⟨some 11, .cp (.v 14), none⟩] [0, 2, 11])
    (.cnd (.v 11) (.seq (.reg [
        ⟨some 15, .bld [.str [], .str [], .sl 0 [], .sl 0 []] [], none⟩,
        ⟨none, .st 4 (.v 2) (.v 15), none⟩,
        ⟨some 3, .cp (.k (.int .i64 5)), none⟩] [2, 3])
      (.ret))
     (.seq (.reg [
        ⟨some 17, .cp (.v 0), none⟩,
        ⟨some 18, .len (.v 17), none⟩,
        ⟨some 19, .ci .gtr (.v 18) (.k (.int .i64 21)), none⟩,
        ⟨some 16, .cp (.v 19), none⟩] [0, 2, 16])
      (.cnd (.v 16) (.seq (.reg [
          ⟨some 20, .bld [.str [], .str [], .sl 0 [], .sl 0 []] [], none⟩,
          ⟨none, .st 4 (.v 2) (.v 20), none⟩,
          ⟨some 3, .cp (.k (.int .i64 4)), none⟩] [2, 3])
        (.ret))
       (.skip))))))
  (.seq (.reg [
     ⟨some 4, .alloc [.str [], .str [], .sl 0 [.un], .sl 0 [.un]], none⟩] [0, 2, 4, 4000004, 5000004])
   (.seq (.seq (.reg [
       ⟨some 21, .cp (.v 0), none⟩,
       ⟨some 22, .len (.v 21), none⟩,
       ⟨some 23, .cp (.k (.int .i64 0)), none⟩] [0, 2, 4, 21, 22, 23, 4000004, 5000004])
     (.blk 1 (.loop (.seq (.reg [
          ⟨some 24, .ci .lss (.v 23) (.v 22), none⟩] [0, 2, 4, 21, 22, 23, 24, 4000004, 5000004])
        (.seq (.cnd (.v 24) (.skip)
          (.exit 1))
         (.seq (.blk 2 (.seq (.reg [
              ⟨some 25, .cp (.v 23), none⟩,
              ⟨some 26, .ia 2 (.v 21) (.v 23), none⟩,
              ⟨some 27, .ld true 2 (.v 26), none⟩,
              ⟨some 6, .alloc [.str [], .str []], none⟩,
              ⟨some 5, .cp (.v 25), none⟩,
              ⟨none, .st 2 (.v 6) (.v 27), none⟩] [0, 2, 4, 5, 6, 21, 22, 23, 4000004, 5000004])
            (.seq (.seq (.reg [
                ⟨some 28, .ld true 2 (.v 6), none⟩,
                ⟨some 29, .call 61 [.v 28], none⟩,
                ⟨some 30, .ci .neq (.v 29) (.k (.int .i64 0)), none⟩] [0, 2, 4, 5, 6, 21, 22, 23, 30, 4000004, 5000004])
              (.cnd (.v 30) (.seq (.reg [
                  ⟨some 31, .bld [.str [], .str [], .sl 0 [], .sl 0 []] [], none⟩,
                  ⟨none, .st 4 (.v 2) (.v 31), none⟩,
                  ⟨some 3, .cp (.k (.int .i64 2)), none⟩] [2, 3])
                (.ret))
               (.skip)))
             (.seq (.seq (.reg [
                 ⟨some 32, .cp (.v 5), none⟩,
                 ⟨some 33, .ci .eql (.v 32) (.k (.int .i64 0)), none⟩] [0, 2, 4, 5, 6, 21, 22, 23, 33, 4000004, 5000004])
               (.cnd (.v 33) (.seq (.reg [
                   ⟨some 34, .ld true 2 (.v 6), none⟩,
                   ⟨some 35, .fa 0 (.v 4), none⟩,
                   ⟨none, .st 2 (.o 35 4) (.v 34), none⟩] [0, 2, 4, 21, 22, 23, 4000004, 5000004])
                 (.exit 2))
                (.skip)))
              (.seq (.reg [
                 ⟨some 36, .ld true 2 (.v 6), none⟩,
                 ⟨some 37, .cp (.v 0), none⟩,
                 ⟨some 38, .cp (.v 5), none⟩,
                 ⟨some 39, .ari .sub .i64 (.v 38) (.k (.int .i64 1)), none⟩,
                 ⟨some 40, .ia 2 (.v 37) (.v 39), none⟩,
                 ⟨some 41, .ld true 2 (.v 40), none⟩,
                 ⟨some 42, .call 75 [.v 36, .v 41], none⟩,
                 ⟨some 7, .alloc [.str [], .str []], none⟩,
                 ⟨none, .st 2 (.v 7) (.v 42), none⟩] [0, 2, 4, 7, 21, 22, 23, 4000004, 5000004])
               (.seq (.seq (.reg [
                   ⟨some 43, .fa 0 (.v 7), none⟩,
                   ⟨some 44, .ld false 1 (.o 43 7), none⟩,
                   ⟨some 45, .call 35 [.v 44], none⟩,
                   ⟨some 46, .ci .leq (.v 45) (.k (.int .i64 0)), none⟩] [0, 2, 4, 7, 21, 22, 23, 46, 4000004, 5000004])
                 (.cnd (.v 46) (.seq (.reg [
                     ⟨some 47, .bld [.str [], .str [], .sl 0 [], .sl 0 []] [], none⟩,
                     ⟨none, .st 4 (.v 2) (.v 47), none⟩,
                     ⟨some 3, .cp (.k (.int .i64 7)), none⟩] [2, 3])
                   (.ret))
                  (.skip)))
                (.seq (.reg [
                   ⟨some 49, .ld true 2 (.v 7), none⟩,
                   ⟨some 50, .ld true 2 (.v 7), none⟩,
                   ⟨some 51, .call 74 [.v 49, .v 50], none⟩,
                   ⟨some 52, .call 46 [.v 51], none⟩,
                   ⟨some 48, .cp (.v 52), none⟩,
                   ⟨some 53, .ext 48 0, none⟩,
                   ⟨some 54, .ext 48 1, none⟩,
                   ⟨some 8, .cp (.v 53), none⟩,
                   ⟨some 9, .cp (.v 54), none⟩] [0, 2, 4, 7, 8, 9, 21, 22, 23, 4000004, 5000004])
                 (.seq (.seq (.reg [
                     ⟨some 55, .cp (.v 9), none⟩,
                     ⟨some 56, .not (.v 55), none⟩] [0, 2, 4, 7, 8, 21, 22, 23, 56, 4000004, 5000004])
                   (.cnd (.v 56) (.seq (.reg [
                       ⟨some 57, .bld [.str [], .str [], .sl 0 [], .sl 0 []] [], none⟩,
                       ⟨none, .st 4 (.v 2) (.v 57), none⟩,
                       ⟨some 3, .cp (.k (.int .i64 29)), none⟩] [2, 3])
                     (.ret))
                    (.skip)))
                  (.seq (.reg [
                     ⟨some 58, .faM 4 2, none⟩,
                     ⟨some 59, .lgM 58 4 2, none⟩,
                     ⟨some 60, .fa 1 (.v 7), none⟩,
                     ⟨some 61, .ld false 1 (.o 60 7), none⟩,
                     ⟨some 62, .cp (.v 8), none⟩,
                     ⟨some 63, .fa 0 (.v 7), none⟩,
                     ⟨some 64, .ld false 1 (.o 63 7), none⟩,
                     ⟨some 65, .call 23 [.v 62, .v 64], none⟩,
                     ⟨some 66, .call 63 [.v 61, .v 65], none⟩,
                     ⟨some 67, .bldS 22 [.str []] 1 [(0, 1, .v 66)], none⟩,
                     ⟨some 68, .app 22 1 16 (.o 59 4000004) (.v 67), none⟩,
                     ⟨some 69, .faM 4 2, none⟩,
                     ⟨none, .sgM 69 4 2 (.v 68) [58, 59], none⟩] [0, 2, 4, 8, 21, 22, 23, 4000004, 5000004])
                   (.reg [
                     ⟨some 70, .faM 4 3, none⟩,
                     ⟨some 71, .lgM 70 4 3, none⟩,
                     ⟨some 72, .cp (.v 8), none⟩,
                     ⟨some 73, .bldS 22 [.str []] 1 [(0, 1, .v 72)], none⟩,
                     ⟨some 74, .app 22 1 16 (.o 71 5000004) (.v 73), none⟩,
                     ⟨some 75, .faM 4 3, none⟩,
                     ⟨none, .sgM 75 4 3 (.v 74) [70, 71], none⟩] [0, 2, 4, 21, 22, 23, 4000004, 5000004]))))))))))
          (.reg [
            ⟨some 76, .ari .add .i64 (.v 23) (.k (.int .i64 1)), none⟩,
            ⟨some 23, .cp (.v 76), none⟩] [0, 2, 4, 21, 22, 23, 4000004, 5000004])))))))
    (.seq (.seq (.reg [
        ⟨some 77, .faM 4 2, none⟩,
        ⟨some 78, .lgM 77 4 2, none⟩,
        ⟨some 79, .len (.o 78 4000004), none⟩,
        ⟨some 80, .cp (.k (.int .i64 0)), none⟩] [2, 4, 79, 80, 4000004, 5000004])
      (.blk 3 (.loop (.seq (.reg [
           ⟨some 81, .ci .lss (.v 80) (.v 79), none⟩] [2, 4, 79, 80, 81, 4000004, 5000004])
         (.seq (.cnd (.v 81) (.skip)
           (.exit 3))
          (.seq (.blk 4 (.seq (.reg [
               ⟨some 82, .cp (.v 80), none⟩,
               ⟨some 10, .cp (.v 82), none⟩] [2, 4, 10, 79, 80, 4000004, 5000004])
             (.seq (.reg [
                ⟨some 83, .faM 4 2, none⟩,
                ⟨some 84, .lgM 83 4 2, none⟩,
                ⟨some 85, .cp (.v 10), none⟩,
                ⟨some 86, .ia 1 (.o 84 4000004) (.v 85), none⟩,
                ⟨some 87, .ld false 1 (.o 86 4000004), none⟩,
                ⟨some 88, .call 54 [.v 87], none⟩,
                ⟨some 89, .ci .neq (.v 88) (.k (.int .i64 0)), none⟩,
                ⟨some 90, .cp (.v 89), none⟩,
                ⟨some 91, .faM 4 3, (some (90, false))⟩,
                ⟨some 92, .lgM 91 4 3, (some (90, false))⟩,
                ⟨some 93, .cp (.v 10), (some (90, false))⟩,
                ⟨some 94, .ia 1 (.o 92 5000004) (.v 93), (some (90, false))⟩,
                ⟨some 95, .ld false 1 (.o 94 5000004), (some (90, false))⟩,
                ⟨some 96, .call 54 [.v 95], (some (90, false))⟩,
                ⟨some 97, .ci .neq (.v 96) (.k (.int .i64 0)), (some (90, false))⟩,
                ⟨some 98, .pick (.v 90) (.k (.bool true)) (.v 97), none⟩] [2, 4, 79, 80, 98, 4000004, 5000004])
              (.cnd (.v 98) (.seq (.reg [
                  ⟨some 99, .bld [.str [], .str [], .sl 0 [], .sl 0 []] [], none⟩,
                  ⟨none, .st 4 (.v 2) (.v 99), none⟩,
                  ⟨some 3, .cp (.k (.int .i64 4)), none⟩] [2, 3])
                (.ret))
               (.skip)))))
           (.reg [
             ⟨some 100, .ari .add .i64 (.v 80) (.k (.int .i64 1)), none⟩,
             ⟨some 80, .cp (.v 100), none⟩] [2, 4, 79, 80, 4000004, 5000004])))))))
     (.seq (.reg [
        ⟨some 101, .ldM 4 4 [4000004, 5000004], none⟩,
        ⟨none, .st 4 (.v 2) (.v 101), none⟩,
        ⟨some 3, .cp (.k (.int .i64 0)), none⟩] [2, 3])
      (.ret))))))
def rs43f : List RV := [.c 2 true 4, .t 3]
end Go.Proofs

/-
  KINK: the law's Make and of: append to fields of a struct. Own work.
-/
namespace Go.Proofs
open Go Go.Pi Go.RowKit Go.Ar Go.Ge Go.Kk

theorem plD_at : ∀ (l : List (Int × Int)) (k : Nat), k < l.length → List.take 2 (List.drop (k * 2) (l.flatMap fun q => [D.int .i8 q.1, D.int .i8 q.2])) = [.int .i8 (l.getD k (0, 0)).1, .int .i8 (l.getD k (0, 0)).2]
  | [], k, h => absurd h (Nat.not_lt_zero k)
  | a :: l, 0, _ => rfl
  | a :: l, k + 1, h => by
    have := plD_at l k (by simpa using h)
    rw [show (k + 1) * 2 = k * 2 + 1 + 1 by omega]
    simpa using this
theorem plD_len (l : List (Int × Int)) : (l.flatMap fun q => [D.int .i8 q.1, D.int .i8 q.2]).length = l.length * 2 := by
  induction l with
  | nil => rfl
  | cons a l ih => simp only [List.flatMap_cons, List.length_append, List.length_cons, List.length_nil, ih]; omega
theorem mx_neg (z : Int) : (if 0 - z > z then 0 - z else z) = (z.natAbs : Int) := by split <;> omega

set_option maxRecDepth 100000 in
set_option maxHeartbeats 8000000 in
theorem Tryz.makeOk : Tryz.MakeOk := by
  intro p hp
  obtain ⟨hx, hy, hd, hn⟩ := hp
  unfold i8K at hx hy
  have tx := tm10 p.x
  have ty := tm10 p.y
  have cat := Tryz.kat (p.x.tmod 10) (p.y.tmod 10) (by rw [inR_i64]; omega) (by rw [inR_i64]; omega)
  refine rule17f Tryz.hL rfl rfl rfl ?_
  simp only [ptD] at cat
  simp only [PlK.D, pc17f, rs17f, evX, evY, evZ, forall_const, implies_true, initE, stepF, D.clean, mvF, moF, tkF, shF, ariF, ciF, catF, scF, ebF, eqF, eqOk, eqPr, enF, notF, ngF, cvF, csF, csbF, lenF, lenSF, ixF, iaF, PX.slot, iaAF, faF, ldF, D.mem, stF, bxF, mkSF, boundF, fldF, ixAF, mmF2, D.plain, D.isPure, optAll, D.dull, callVF, splice, D.cells, D.one, sets, resT, D.flat, D.flat0, D.simple, Nat.reduceBNe, Nat.reduceLT, reduceIte, Nat.reduceEqDiff, Nat.reduceAdd, Nat.reduceMul, Nat.reduceSub, Nat.reduceLeDiff, Int.reduceToNat, Int.reduceLT, Int.reduceLE, Int.reduceEq, Int.reduceNeg, Int.reduceSub, Int.reduceAdd, Int.reduceMul, stG_own]
  refine ⟨by omega, by omega, by omega, by omega, ?_⟩
  refine callF_of cat ?_
  (refine ev ?_; try with_reducible exact trivial)
  have hpl := plD_len p.d
  refine loopF_of (fun E => ∃ (k : Nat) (b x y : D), k ≤ p.d.length ∧ ((k = 0 ∧ b = .box true [.str (rt ((p.x.tmod 10 : Int) : Rat)), .str (rt ((p.y.tmod 10 : Int) : Rat)), .sl 0 [.un], .sl 0 [.un]] ∧ x = .un ∧ y = .un) ∨
      (0 < k ∧ b = .mbx [.str (rt ((p.x.tmod 10 : Int) : Rat)), .str (rt ((p.y.tmod 10 : Int) : Rat)), .al 4000003, .al 5000003] ∧ x = .own true 22 k (nms k p.dip) ∧ y = .own true 22 k (nms k p.len))) ∧
      E = [(1, .box true [.int .i8 p.x, .int .i8 p.y, .sl p.d.length (p.d.flatMap fun q => [.int .i8 q.1, .int .i8 q.2])]), (2, .box true [.str [], .str [], .sl 0 [], .sl 0 []]), (3, b), (4, .int .i64 k), (4000003, x), (5000003, y)])
    (fun E => match lk E 4 with | .int _ i => p.d.length - i.toNat | _ => 0) ⟨0, _, _, _, Nat.zero_le _, .inl ⟨rfl, rfl, rfl, rfl⟩, rfl⟩ ?_
  rintro _ ⟨k, b, x, y, hk, hb, rfl⟩
  by_cases hlt : k < p.d.length
  · have hpk := plD_at p.d k hlt
    have hq := hd (p.d.getD k (0, 0)) (by rw [List.getD_eq_getElem?_getD, List.getElem?_eq_getElem hlt]; exact List.getElem_mem hlt)
    have edip : mkRat ((p.d.getD k (0, 0)).1.tmod 6) 6 = p.dip k := by unfold PlK.dip; rw [Rat.mkRat_eq_div]; rfl
    have t6 := tm6 (p.d.getD k (0, 0)).1
    have co := Tryz.rof ((p.d.getD k (0, 0)).1.tmod 6) 6 (by decide) (by rw [inR_i64]; omega) (by rw [inR_i64]; omega)
    rw [edip] at co
    have u6 := tm6 ((p.d.getD k (0, 0)).2.natAbs : Int)
    have cw := Tryz.rwhole (1 + ((p.d.getD k (0, 0)).2.natAbs : Int).tmod 6) (by rw [inR_i64]; omega)
    rw [show ((1 + ((p.d.getD k (0, 0)).2.natAbs : Int).tmod 6 : Int) : Rat) = p.len k from rfl] at cw
    have e1 : nms (k + 1) p.dip = nms k p.dip ++ [.str (rt (p.dip k))] := nms_suc _ _
    have e2 : nms (k + 1) p.len = nms k p.len ++ [.str (rt (p.len k))] := nms_suc _ _
    generalize p.d.getD k (0, 0) = q at *
    obtain ⟨q1, q2⟩ := q
    obtain ⟨⟨a1, a2⟩, ⟨a3, a4⟩⟩ := hq
    simp only at hpk co cw t6 u6 a1 a2 a3 a4
    have hd1 := nms_len k p.dip
    have hd2 := nms_len k p.len
    have hd1 := nms_len k p.dip
    have hd2 := nms_len k p.len
    rcases hb with ⟨hk0, rfl, rfl, rfl⟩ | ⟨h0, rfl, rfl, rfl⟩
    · simp only [evX, evY, evZ, forall_const, implies_true, initE, stepF, D.clean, mvF, moF, tkF, shF, ariF, ciF, catF, scF, ebF, eqF, eqOk, eqPr, enF, notF, ngF, cvF, csF, csbF, lenF, lenSF, ixF, iaF, PX.slot, iaAF, faF, ldF, D.mem, stF, bxF, mkSF, boundF, fldF, ixAF, mmF2, D.plain, D.isPure, optAll, D.dull, callVF, splice, D.cells, D.one, sets, resT, D.flat, D.flat0, D.simple, Nat.reduceBNe, Nat.reduceLT, reduceIte, Nat.reduceEqDiff, Nat.reduceAdd, Nat.reduceMul, Nat.reduceSub, Nat.reduceLeDiff, Int.reduceToNat, Int.reduceLT, Int.reduceLE, Int.reduceEq, Int.reduceNeg, Int.reduceSub, Int.reduceAdd, Int.reduceMul, stG_own, GF_eq, faMF_b, faMF_m, lgMF_b, lgMF_m, lgMC_al, lgMC_sl, lgMC_str, sgMF_b, sgMF_m, ldMF_b, ldMF_m, appF_no, fset0, fsetS, fldOk_al, fldOk_str, fldOk_sl, isOwn_o, unM_al, unM_str, unM_sl, hpk, mx_neg]
      refine ⟨fun _ => ⟨fun _ => ?_, fun h => absurd (by omega) h⟩, fun h => absurd (by omega) h⟩
      refine ⟨⟨by omega, by omega, by omega⟩, by omega, by omega, ?_⟩
      refine callF_of co ?_
      simp only [evX, evY, evZ, forall_const, implies_true, initE, stepF, D.clean, mvF, moF, tkF, shF, ariF, ciF, catF, scF, ebF, eqF, eqOk, eqPr, enF, notF, ngF, cvF, csF, csbF, lenF, lenSF, ixF, iaF, PX.slot, iaAF, faF, ldF, D.mem, stF, bxF, mkSF, boundF, fldF, ixAF, mmF2, D.plain, D.isPure, optAll, D.dull, callVF, splice, D.cells, D.one, sets, resT, D.flat, D.flat0, D.simple, Nat.reduceBNe, Nat.reduceLT, reduceIte, Nat.reduceEqDiff, Nat.reduceAdd, Nat.reduceMul, Nat.reduceSub, Nat.reduceLeDiff, Int.reduceToNat, Int.reduceLT, Int.reduceLE, Int.reduceEq, Int.reduceNeg, Int.reduceSub, Int.reduceAdd, Int.reduceMul, stG_own, GF_eq, faMF_b, faMF_m, lgMF_b, lgMF_m, lgMC_al, lgMC_sl, lgMC_str, sgMF_b, sgMF_m, ldMF_b, ldMF_m, appF_no, fset0, fsetS, fldOk_al, fldOk_str, fldOk_sl, isOwn_o, unM_al, unM_str, unM_sl, hpk, mx_neg]
      refine ⟨⟨by omega, by omega, by omega⟩, by omega, by omega, ⟨by omega, by omega, by omega⟩, by omega, by omega, by omega, by omega, ?_⟩
      refine callF_of cw ?_
      simp only [evX, evY, evZ, forall_const, implies_true, initE, stepF, D.clean, mvF, moF, tkF, shF, ariF, ciF, catF, scF, ebF, eqF, eqOk, eqPr, enF, notF, ngF, cvF, csF, csbF, lenF, lenSF, ixF, iaF, PX.slot, iaAF, faF, ldF, D.mem, stF, bxF, mkSF, boundF, fldF, ixAF, mmF2, D.plain, D.isPure, optAll, D.dull, callVF, splice, D.cells, D.one, sets, resT, D.flat, D.flat0, D.simple, Nat.reduceBNe, Nat.reduceLT, reduceIte, Nat.reduceEqDiff, Nat.reduceAdd, Nat.reduceMul, Nat.reduceSub, Nat.reduceLeDiff, Int.reduceToNat, Int.reduceLT, Int.reduceLE, Int.reduceEq, Int.reduceNeg, Int.reduceSub, Int.reduceAdd, Int.reduceMul, stG_own, GF_eq, faMF_b, faMF_m, lgMF_b, lgMF_m, lgMC_al, lgMC_sl, lgMC_str, sgMF_b, sgMF_m, ldMF_b, ldMF_m, appF_no, fset0, fsetS, fldOk_al, fldOk_str, fldOk_sl, isOwn_o, unM_al, unM_str, unM_sl]
      refine ⟨by omega, ⟨k + 1, _, _, _, by omega, .inr ⟨by omega, rfl, rfl, rfl⟩, ?_⟩, by omega⟩
      subst hk0
      exact ⟨rfl, rfl, rfl, rfl⟩
    · simp only [evX, evY, evZ, forall_const, implies_true, initE, stepF, D.clean, mvF, moF, tkF, shF, ariF, ciF, catF, scF, ebF, eqF, eqOk, eqPr, enF, notF, ngF, cvF, csF, csbF, lenF, lenSF, ixF, iaF, PX.slot, iaAF, faF, ldF, D.mem, stF, bxF, mkSF, boundF, fldF, ixAF, mmF2, D.plain, D.isPure, optAll, D.dull, callVF, splice, D.cells, D.one, sets, resT, D.flat, D.flat0, D.simple, Nat.reduceBNe, Nat.reduceLT, reduceIte, Nat.reduceEqDiff, Nat.reduceAdd, Nat.reduceMul, Nat.reduceSub, Nat.reduceLeDiff, Int.reduceToNat, Int.reduceLT, Int.reduceLE, Int.reduceEq, Int.reduceNeg, Int.reduceSub, Int.reduceAdd, Int.reduceMul, stG_own, GF_eq, faMF_b, faMF_m, lgMF_b, lgMF_m, lgMC_al, lgMC_sl, lgMC_str, sgMF_b, sgMF_m, ldMF_b, ldMF_m, appF_no, fset0, fsetS, fldOk_al, fldOk_str, fldOk_sl, isOwn_o, unM_al, unM_str, unM_sl, hpk, mx_neg]
      refine ⟨fun _ => ⟨fun _ => ?_, fun h => absurd (by omega) h⟩, fun h => absurd (by omega) h⟩
      refine ⟨⟨by omega, by omega, by omega⟩, by omega, by omega, ?_⟩
      refine callF_of co ?_
      simp only [evX, evY, evZ, forall_const, implies_true, initE, stepF, D.clean, mvF, moF, tkF, shF, ariF, ciF, catF, scF, ebF, eqF, eqOk, eqPr, enF, notF, ngF, cvF, csF, csbF, lenF, lenSF, ixF, iaF, PX.slot, iaAF, faF, ldF, D.mem, stF, bxF, mkSF, boundF, fldF, ixAF, mmF2, D.plain, D.isPure, optAll, D.dull, callVF, splice, D.cells, D.one, sets, resT, D.flat, D.flat0, D.simple, Nat.reduceBNe, Nat.reduceLT, reduceIte, Nat.reduceEqDiff, Nat.reduceAdd, Nat.reduceMul, Nat.reduceSub, Nat.reduceLeDiff, Int.reduceToNat, Int.reduceLT, Int.reduceLE, Int.reduceEq, Int.reduceNeg, Int.reduceSub, Int.reduceAdd, Int.reduceMul, stG_own, GF_eq, faMF_b, faMF_m, lgMF_b, lgMF_m, lgMC_al, lgMC_sl, lgMC_str, sgMF_b, sgMF_m, ldMF_b, ldMF_m, appF_no, fset0, fsetS, fldOk_al, fldOk_str, fldOk_sl, isOwn_o, unM_al, unM_str, unM_sl, hpk, mx_neg]
      refine ⟨by omega, by omega, ⟨by omega, by omega, by omega⟩, by omega, by omega, ⟨by omega, by omega, by omega⟩, by omega, by omega, by omega, by omega, ?_⟩
      refine callF_of cw ?_
      simp only [evX, evY, evZ, forall_const, implies_true, initE, stepF, D.clean, mvF, moF, tkF, shF, ariF, ciF, catF, scF, ebF, eqF, eqOk, eqPr, enF, notF, ngF, cvF, csF, csbF, lenF, lenSF, ixF, iaF, PX.slot, iaAF, faF, ldF, D.mem, stF, bxF, mkSF, boundF, fldF, ixAF, mmF2, D.plain, D.isPure, optAll, D.dull, callVF, splice, D.cells, D.one, sets, resT, D.flat, D.flat0, D.simple, Nat.reduceBNe, Nat.reduceLT, reduceIte, Nat.reduceEqDiff, Nat.reduceAdd, Nat.reduceMul, Nat.reduceSub, Nat.reduceLeDiff, Int.reduceToNat, Int.reduceLT, Int.reduceLE, Int.reduceEq, Int.reduceNeg, Int.reduceSub, Int.reduceAdd, Int.reduceMul, stG_own, GF_eq, faMF_b, faMF_m, lgMF_b, lgMF_m, lgMC_al, lgMC_sl, lgMC_str, sgMF_b, sgMF_m, ldMF_b, ldMF_m, appF_no, fset0, fsetS, fldOk_al, fldOk_str, fldOk_sl, isOwn_o, unM_al, unM_str, unM_sl]
      exact ⟨by omega, by omega, by omega, ⟨k + 1, _, _, _, by omega, .inr ⟨by omega, rfl, rfl, rfl⟩, by rw [e1, e2]; exact ⟨rfl, rfl, rfl, rfl⟩⟩, by omega⟩
  · obtain rfl : k = p.d.length := by omega
    rcases hb with ⟨hk0, rfl, rfl, rfl⟩ | ⟨h0, rfl, rfl, rfl⟩
    · have hnil : p.d = [] := List.eq_nil_of_length_eq_zero hk0
      have z1 : rt (p.dip 0) = [48] := by unfold PlK.dip; rw [hnil]; decide +kernel
      have z2 : rt (p.len 0) = [49] := by unfold PlK.len; rw [hnil]; decide +kernel
      simp only [evX, evY, evZ, forall_const, implies_true, initE, stepF, D.clean, mvF, moF, tkF, shF, ariF, ciF, catF, scF, ebF, eqF, eqOk, eqPr, enF, notF, ngF, cvF, csF, csbF, lenF, lenSF, ixF, iaF, PX.slot, iaAF, faF, ldF, D.mem, stF, bxF, mkSF, boundF, fldF, ixAF, mmF2, D.plain, D.isPure, optAll, D.dull, callVF, splice, D.cells, D.one, sets, resT, D.flat, D.flat0, D.simple, Nat.reduceBNe, Nat.reduceLT, reduceIte, Nat.reduceEqDiff, Nat.reduceAdd, Nat.reduceMul, Nat.reduceSub, Nat.reduceLeDiff, Int.reduceToNat, Int.reduceLT, Int.reduceLE, Int.reduceEq, Int.reduceNeg, Int.reduceSub, Int.reduceAdd, Int.reduceMul, stG_own, GF_eq, faMF_b, faMF_m, lgMF_b, lgMF_m, lgMC_al, lgMC_sl, lgMC_str, sgMF_b, sgMF_m, ldMF_b, ldMF_m, appF_no, fset0, fsetS, fldOk_al, fldOk_str, fldOk_sl, isOwn_o, unM_al, unM_str, unM_sl]
      refine ⟨fun h => absurd h (by omega), fun _ => ?_⟩
      refine ⟨fun _ => ⟨rfl, ?_⟩, fun h => absurd rfl h⟩
      have e : pfD p.pf = [.str (rt ((p.x.tmod 10 : Int) : Rat)), .str (rt ((p.y.tmod 10 : Int) : Rat)), .sl 1 [.str [48]], .sl 1 [.str [49]]] := by
        unfold pfD PlK.pf
        simp only [if_pos hnil]
        show [D.str _, D.str _, D.sl 1 [.str (rt (p.dip 0))], D.sl 1 [.str (rt (p.len 0))]] = _
        rw [z1, z2]
      rw [e]
      rfl
    · have hne : p.d ≠ [] := fun h => by rw [h] at h0; exact absurd h0 (by decide)
      simp only [evX, evY, evZ, forall_const, implies_true, initE, stepF, D.clean, mvF, moF, tkF, shF, ariF, ciF, catF, scF, ebF, eqF, eqOk, eqPr, enF, notF, ngF, cvF, csF, csbF, lenF, lenSF, ixF, iaF, PX.slot, iaAF, faF, ldF, D.mem, stF, bxF, mkSF, boundF, fldF, ixAF, mmF2, D.plain, D.isPure, optAll, D.dull, callVF, splice, D.cells, D.one, sets, resT, D.flat, D.flat0, D.simple, Nat.reduceBNe, Nat.reduceLT, reduceIte, Nat.reduceEqDiff, Nat.reduceAdd, Nat.reduceMul, Nat.reduceSub, Nat.reduceLeDiff, Int.reduceToNat, Int.reduceLT, Int.reduceLE, Int.reduceEq, Int.reduceNeg, Int.reduceSub, Int.reduceAdd, Int.reduceMul, stG_own, GF_eq, faMF_b, faMF_m, lgMF_b, lgMF_m, lgMC_al, lgMC_sl, lgMC_str, sgMF_b, sgMF_m, ldMF_b, ldMF_m, appF_no, fset0, fsetS, fldOk_al, fldOk_str, fldOk_sl, isOwn_o, unM_al, unM_str, unM_sl]
      refine ⟨fun h => absurd h (by omega), fun _ => ?_⟩
      refine ⟨fun h => absurd h (by omega), fun _ => ⟨rfl, ?_⟩⟩
      have e : pfD p.pf = [.str (rt ((p.x.tmod 10 : Int) : Rat)), .str (rt ((p.y.tmod 10 : Int) : Rat)), .sl p.d.length (nms p.d.length p.dip), .sl p.d.length (nms p.d.length p.len)] := by
        unfold pfD PlK.pf
        simp only [if_neg hne]
      rw [e]
      rfl

theorem ldC_nms0 {n t : Nat} {f : Nat → Rat} {N : EP} {E : Env} : ldC false 1 (List.take 1 (nms n f)) t N E = (0 < n ∧ N (st1 E t (.str (rt (f 0))))) := ldC_nms (k := 0)
set_option maxRecDepth 100000 in
set_option maxHeartbeats 16000000 in
theorem Tryz.ofOk : Tryz.OfOk := by
  intro p hs
  have hn0 := hs.n0
  have hn4 := hs.n
  have cn : ∀ k, k < p.n → Con Tryz.prog Tryz.L 59 [.str (rt (p.t k))] (ptD (nrm (p.t k))) := fun k hk => Tryz.lknrm _ (by have := hs.t k hk; omega)
  simp only [ptD] at cn
  have l1 := nms_len p.n p.t
  have l2 := nms_len p.n p.l
  have c0 := cn 0 hn0
  refine rule18f Tryz.hL rfl rfl rfl ?_
  simp only [pfD, pc18f, rs18f, evX, evY, evZ, forall_const, implies_true, initE, stepF, D.clean, mvF, moF, tkF, shF, ariF, ciF, catF, scF, ebF, eqF, eqOk, eqPr, enF, notF, ngF, cvF, csF, csbF, lenF, lenSF, ixF, iaF, PX.slot, iaAF, faF, ldF, D.mem, stF, bxF, mkSF, boundF, fldF, ixAF, mmF2, D.plain, D.isPure, optAll, D.dull, callVF, splice, D.cells, D.one, sets, resT, D.flat, D.flat0, D.simple, Nat.reduceBNe, Nat.reduceLT, reduceIte, Nat.reduceEqDiff, Nat.reduceAdd, Nat.reduceMul, Nat.reduceSub, Nat.reduceLeDiff, Int.reduceToNat, Int.reduceLT, Int.reduceLE, Int.reduceEq, Int.reduceNeg, Int.reduceSub, Int.reduceAdd, Int.reduceMul, stG_own, ldC_nms, ldC_nms0, nms_len]
  refine ⟨⟨by omega, by omega⟩, hn0, ?_⟩
  refine callF_of c0 ?_
  simp only [evX, evY, evZ, forall_const, implies_true, initE, stepF, D.clean, mvF, moF, tkF, shF, ariF, ciF, catF, scF, ebF, eqF, eqOk, eqPr, enF, notF, ngF, cvF, csF, csbF, lenF, lenSF, ixF, iaF, PX.slot, iaAF, faF, ldF, D.mem, stF, bxF, mkSF, boundF, fldF, ixAF, mmF2, D.plain, D.isPure, optAll, D.dull, callVF, splice, D.cells, D.one, sets, resT, D.flat, D.flat0, D.simple, Nat.reduceBNe, Nat.reduceLT, reduceIte, Nat.reduceEqDiff, Nat.reduceAdd, Nat.reduceMul, Nat.reduceSub, Nat.reduceLeDiff, Int.reduceToNat, Int.reduceLT, Int.reduceLE, Int.reduceEq, Int.reduceNeg, Int.reduceSub, Int.reduceAdd, Int.reduceMul, stG_own, GF_eq, faMF_b, faMF_m, lgMF_b, lgMF_m, lgMC_al, lgMC_sl, lgMC_str, sgMF_b, sgMF_m, ldMF_b, ldMF_m, appF_no, fset0, fsetS, fldOk_al, fldOk_str, fldOk_sl, isOwn_o, unM_al, unM_str, unM_sl, bldQF_o, stQF_o, lgDF_m, isAlO_al]
  refine loopF_of (fun E => ∃ (k : Nat) (w : Bool), k ≤ p.n ∧ E = [(1, .box true [.str (rt p.s.1), .str (rt p.s.2), .sl p.n (nms p.n p.t), .sl p.n (nms p.n p.l)]), (2, .box true [.sl 0 [], .sl 0 []]), (3, .int .i64 p.n), (4, .mbx [.al 2000004, .al 3000004]), (5, .int .i64 k),
      (2000004, .own w 25 (k + 1) (pts (lst (k + 1) p.at'))), (3000004, .own true 25 (min (k + 1) p.n) (pts (lst (min (k + 1) p.n) p.ax)))])
    (fun E => match lk E 5 with | .int _ i => p.n - i.toNat | _ => 0) ⟨0, true, Nat.zero_le _, by rw [show min (0 + 1) p.n = 1 by omega]; rfl⟩ ?_
  rintro _ ⟨k, w, hk, rfl⟩
  have pl1 := pts_len (lst (k + 1) p.at')
  rw [lst_len] at pl1
  have pl2 := pts_len (lst (min (k + 1) p.n) p.ax)
  rw [lst_len] at pl2
  simp only [evX, evY, evZ, forall_const, implies_true, initE, stepF, D.clean, mvF, moF, tkF, shF, ariF, ciF, catF, scF, ebF, eqF, eqOk, eqPr, enF, notF, ngF, cvF, csF, csbF, lenF, lenSF, ixF, iaF, PX.slot, iaAF, faF, ldF, D.mem, stF, bxF, mkSF, boundF, fldF, ixAF, mmF2, D.plain, D.isPure, optAll, D.dull, callVF, splice, D.cells, D.one, sets, resT, D.flat, D.flat0, D.simple, Nat.reduceBNe, Nat.reduceLT, reduceIte, Nat.reduceEqDiff, Nat.reduceAdd, Nat.reduceMul, Nat.reduceSub, Nat.reduceLeDiff, Int.reduceToNat, Int.reduceLT, Int.reduceLE, Int.reduceEq, Int.reduceNeg, Int.reduceSub, Int.reduceAdd, Int.reduceMul, stG_own, GF_eq, faMF_b, faMF_m, lgMF_b, lgMF_m, lgMC_al, lgMC_sl, lgMC_str, sgMF_b, sgMF_m, ldMF_b, ldMF_m, appF_no, fset0, fsetS, fldOk_al, fldOk_str, fldOk_sl, isOwn_o, unM_al, unM_str, unM_sl, bldQF_o, stQF_o, lgDF_m, isAlO_al, ldC_nms, nms_len, ldC_ptsT]
  refine ⟨fun h3 => ?_, fun h3 => ?_⟩
  · have hk2 : k < p.n := by omega
    have hd := (hs.dir hk2)
    have cd := Tryz.lkdir (p.t k) (by have := hs.t k hk2; omega)
    have cp := Tryz.lkplus (p.at' k) (dirK (p.t k)) (p.l k) ((hs.at' k (by omega)).mono (by omega)) (hd.mono (by omega)) (by have := hs.l k hk2; omega)
    simp only [ptD] at cd cp
    refine ⟨rfl, ⟨by omega, by omega, by omega⟩, by omega, ⟨by omega, by omega, by omega⟩, hk2, ⟨by omega, by omega, by omega⟩, hk2, ?_⟩
    refine callF_of cd ?_
    simp only [evX, evY, evZ, forall_const, implies_true, initE, stepF, D.clean, mvF, moF, tkF, shF, ariF, ciF, catF, scF, ebF, eqF, eqOk, eqPr, enF, notF, ngF, cvF, csF, csbF, lenF, lenSF, ixF, iaF, PX.slot, iaAF, faF, ldF, D.mem, stF, bxF, mkSF, boundF, fldF, ixAF, mmF2, D.plain, D.isPure, optAll, D.dull, callVF, splice, D.cells, D.one, sets, resT, D.flat, D.flat0, D.simple, Nat.reduceBNe, Nat.reduceLT, reduceIte, Nat.reduceEqDiff, Nat.reduceAdd, Nat.reduceMul, Nat.reduceSub, Nat.reduceLeDiff, Int.reduceToNat, Int.reduceLT, Int.reduceLE, Int.reduceEq, Int.reduceNeg, Int.reduceSub, Int.reduceAdd, Int.reduceMul, stG_own, GF_eq, faMF_b, faMF_m, lgMF_b, lgMF_m, lgMC_al, lgMC_sl, lgMC_str, sgMF_b, sgMF_m, ldMF_b, ldMF_m, appF_no, fset0, fsetS, fldOk_al, fldOk_str, fldOk_sl, isOwn_o, unM_al, unM_str, unM_sl, bldQF_o, stQF_o, lgDF_m, isAlO_al, pD]
    refine callF_of cp ?_
    simp only [evX, evY, evZ, forall_const, implies_true, initE, stepF, D.clean, mvF, moF, tkF, shF, ariF, ciF, catF, scF, ebF, eqF, eqOk, eqPr, enF, notF, ngF, cvF, csF, csbF, lenF, lenSF, ixF, iaF, PX.slot, iaAF, faF, ldF, D.mem, stF, bxF, mkSF, boundF, fldF, ixAF, mmF2, D.plain, D.isPure, optAll, D.dull, callVF, splice, D.cells, D.one, sets, resT, D.flat, D.flat0, D.simple, Nat.reduceBNe, Nat.reduceLT, reduceIte, Nat.reduceEqDiff, Nat.reduceAdd, Nat.reduceMul, Nat.reduceSub, Nat.reduceLeDiff, Int.reduceToNat, Int.reduceLT, Int.reduceLE, Int.reduceEq, Int.reduceNeg, Int.reduceSub, Int.reduceAdd, Int.reduceMul, stG_own, GF_eq, faMF_b, faMF_m, lgMF_b, lgMF_m, lgMC_al, lgMC_sl, lgMC_str, sgMF_b, sgMF_m, ldMF_b, ldMF_m, appF_no, fset0, fsetS, fldOk_al, fldOk_str, fldOk_sl, isOwn_o, unM_al, unM_str, unM_sl, bldQF_o, stQF_o, lgDF_m, isAlO_al, ldC_nms, nms_len]
    have ea : pts (lst (k + 1 + 1) p.at') = pts (lst (k + 1) p.at') ++ [.str (rt (pl (p.at' k) (dirK (p.t k)) (p.l k)).1), .str (rt (pl (p.at' k) (dirK (p.t k)) (p.l k)).2)] := by
      rw [lst_succ, pts_snoc]; rfl
    refine ⟨by omega, by omega, ⟨by omega, by omega⟩, fun h4 => ?_, fun h4 => ?_⟩
    · have hk3 : k + 1 < p.n := by omega
      have e9 : ((k : Int) + 1).toNat = k + 1 := by omega
      have n1 := cn k hk2
      have n2 := cn (k + 1) hk3
      have s1 := hs.nrm hk2
      have s2 := hs.nrm hk3
      have hne := (dot_nn (hs.ne hk2 hk3)).1
      have dd := rd_dt s1 s2
      have dd2 := rd_add 1 (dt (nrm (p.t k)) (nrm (p.t (k + 1))))
      have dd3 := rd_div 1 (1 + dt (nrm (p.t k)) (nrm (p.t (k + 1))))
      rw [rd_one1] at dd2 dd3
      have c3 := Tryz.lkdot _ _ (s1.mono (show 44 ≤ 2000 by omega)) (s2.mono (show 44 ≤ 2000 by omega))
      have c4 := Tryz.radd 1 (dt (nrm (p.t k)) (nrm (p.t (k + 1)))) (by rw [rd_one1]; omega) (by omega)
      have c5 := Tryz.lkover 1 (1 + dt (nrm (p.t k)) (nrm (p.t (k + 1)))) (by rw [rd_one1]; omega) (by omega) hne
      rw [rt1] at c4 c5
      simp only [ptD] at c3
      have ex : p.ax (k + 1) = (1 / (1 + dt (nrm (p.t k)) (nrm (p.t (k + 1)))) * ((nrm (p.t k)).1 + (nrm (p.t (k + 1))).1), 1 / (1 + dt (nrm (p.t k)) (nrm (p.t (k + 1)))) * ((nrm (p.t k)).2 + (nrm (p.t (k + 1))).2)) := by
        unfold Pf.ax
        rw [if_neg (by omega), if_neg (by omega), Nat.add_sub_cancel]
        unfold avg pl
        simp only [Rat.one_mul, Rat.zero_add]
      have em : min (k + 1 + 1) p.n = k + 2 := by omega
      have em1 : min (k + 1) p.n = k + 1 := by omega
      have eb : pts (lst (k + 2) p.ax) = pts (lst (k + 1) p.ax) ++ [.str (rt (1 / (1 + dt (nrm (p.t k)) (nrm (p.t (k + 1)))) * ((nrm (p.t k)).1 + (nrm (p.t (k + 1))).1))), .str (rt (1 / (1 + dt (nrm (p.t k)) (nrm (p.t (k + 1)))) * ((nrm (p.t k)).2 + (nrm (p.t (k + 1))).2)))] := by
        rw [lst_succ, pts_snoc, ex]; rfl
      clear ex
      have s3 := rd_add (nrm (p.t k)).1 (nrm (p.t (k + 1))).1
      have s4 := rd_add (nrm (p.t k)).2 (nrm (p.t (k + 1))).2
      obtain ⟨s11, s12⟩ := s1
      obtain ⟨s21, s22⟩ := s2
      generalize 1 / (1 + dt (nrm (p.t k)) (nrm (p.t (k + 1)))) = K at *
      generalize 1 + dt (nrm (p.t k)) (nrm (p.t (k + 1))) = K2 at *
      generalize dt (nrm (p.t k)) (nrm (p.t (k + 1))) = K3 at *
      generalize nrm (p.t k) = N1 at *
      generalize nrm (p.t (k + 1)) = N2 at *
      rw [em1] at pl2 ⊢
      have c6 := Tryz.radd N1.1 N2.1 (by omega) (by omega)
      have c7 := Tryz.radd N1.2 N2.2 (by omega) (by omega)
      have c8 := Tryz.rmul K (N1.1 + N2.1) (by omega) (by omega)
      have c9 := Tryz.rmul K (N1.2 + N2.2) (by omega) (by omega)
      refine ⟨⟨by omega, by omega, by omega⟩, hk2, ?_⟩
      refine callF_of n1 ?_
      simp only [evX, evY, evZ, forall_const, implies_true, initE, stepF, D.clean, mvF, moF, tkF, shF, ariF, ciF, catF, scF, ebF, eqF, eqOk, eqPr, enF, notF, ngF, cvF, csF, csbF, lenF, lenSF, ixF, iaF, PX.slot, iaAF, faF, ldF, D.mem, stF, bxF, mkSF, boundF, fldF, ixAF, mmF2, D.plain, D.isPure, optAll, D.dull, callVF, splice, D.cells, D.one, sets, resT, D.flat, D.flat0, D.simple, Nat.reduceBNe, Nat.reduceLT, reduceIte, Nat.reduceEqDiff, Nat.reduceAdd, Nat.reduceMul, Nat.reduceSub, Nat.reduceLeDiff, Int.reduceToNat, Int.reduceLT, Int.reduceLE, Int.reduceEq, Int.reduceNeg, Int.reduceSub, Int.reduceAdd, Int.reduceMul, stG_own, GF_eq, faMF_b, faMF_m, lgMF_b, lgMF_m, lgMC_al, lgMC_sl, lgMC_str, sgMF_b, sgMF_m, ldMF_b, ldMF_m, appF_no, fset0, fsetS, fldOk_al, fldOk_str, fldOk_sl, isOwn_o, unM_al, unM_str, unM_sl, bldQF_o, stQF_o, lgDF_m, isAlO_al, ldC_nms, nms_len, e9]
      refine ⟨⟨by omega, by omega⟩, ⟨by omega, by omega, by omega⟩, by omega, ?_⟩
      refine callF_of n2 ?_
      simp only [evX, evY, evZ, forall_const, implies_true, initE, stepF, D.clean, mvF, moF, tkF, shF, ariF, ciF, catF, scF, ebF, eqF, eqOk, eqPr, enF, notF, ngF, cvF, csF, csbF, lenF, lenSF, ixF, iaF, PX.slot, iaAF, faF, ldF, D.mem, stF, bxF, mkSF, boundF, fldF, ixAF, mmF2, D.plain, D.isPure, optAll, D.dull, callVF, splice, D.cells, D.one, sets, resT, D.flat, D.flat0, D.simple, Nat.reduceBNe, Nat.reduceLT, reduceIte, Nat.reduceEqDiff, Nat.reduceAdd, Nat.reduceMul, Nat.reduceSub, Nat.reduceLeDiff, Int.reduceToNat, Int.reduceLT, Int.reduceLE, Int.reduceEq, Int.reduceNeg, Int.reduceSub, Int.reduceAdd, Int.reduceMul, stG_own, GF_eq, faMF_b, faMF_m, lgMF_b, lgMF_m, lgMC_al, lgMC_sl, lgMC_str, sgMF_b, sgMF_m, ldMF_b, ldMF_m, appF_no, fset0, fsetS, fldOk_al, fldOk_str, fldOk_sl, isOwn_o, unM_al, unM_str, unM_sl, bldQF_o, stQF_o, lgDF_m, isAlO_al, ldC_nms, nms_len]
      refine callF_of c3 ?_
      simp only [evX, evY, evZ, forall_const, implies_true, initE, stepF, D.clean, mvF, moF, tkF, shF, ariF, ciF, catF, scF, ebF, eqF, eqOk, eqPr, enF, notF, ngF, cvF, csF, csbF, lenF, lenSF, ixF, iaF, PX.slot, iaAF, faF, ldF, D.mem, stF, bxF, mkSF, boundF, fldF, ixAF, mmF2, D.plain, D.isPure, optAll, D.dull, callVF, splice, D.cells, D.one, sets, resT, D.flat, D.flat0, D.simple, Nat.reduceBNe, Nat.reduceLT, reduceIte, Nat.reduceEqDiff, Nat.reduceAdd, Nat.reduceMul, Nat.reduceSub, Nat.reduceLeDiff, Int.reduceToNat, Int.reduceLT, Int.reduceLE, Int.reduceEq, Int.reduceNeg, Int.reduceSub, Int.reduceAdd, Int.reduceMul, stG_own, GF_eq, faMF_b, faMF_m, lgMF_b, lgMF_m, lgMC_al, lgMC_sl, lgMC_str, sgMF_b, sgMF_m, ldMF_b, ldMF_m, appF_no, fset0, fsetS, fldOk_al, fldOk_str, fldOk_sl, isOwn_o, unM_al, unM_str, unM_sl, bldQF_o, stQF_o, lgDF_m, isAlO_al, ldC_nms, nms_len]
      refine callF_of c4 ?_
      simp only [evX, evY, evZ, forall_const, implies_true, initE, stepF, D.clean, mvF, moF, tkF, shF, ariF, ciF, catF, scF, ebF, eqF, eqOk, eqPr, enF, notF, ngF, cvF, csF, csbF, lenF, lenSF, ixF, iaF, PX.slot, iaAF, faF, ldF, D.mem, stF, bxF, mkSF, boundF, fldF, ixAF, mmF2, D.plain, D.isPure, optAll, D.dull, callVF, splice, D.cells, D.one, sets, resT, D.flat, D.flat0, D.simple, Nat.reduceBNe, Nat.reduceLT, reduceIte, Nat.reduceEqDiff, Nat.reduceAdd, Nat.reduceMul, Nat.reduceSub, Nat.reduceLeDiff, Int.reduceToNat, Int.reduceLT, Int.reduceLE, Int.reduceEq, Int.reduceNeg, Int.reduceSub, Int.reduceAdd, Int.reduceMul, stG_own, GF_eq, faMF_b, faMF_m, lgMF_b, lgMF_m, lgMC_al, lgMC_sl, lgMC_str, sgMF_b, sgMF_m, ldMF_b, ldMF_m, appF_no, fset0, fsetS, fldOk_al, fldOk_str, fldOk_sl, isOwn_o, unM_al, unM_str, unM_sl, bldQF_o, stQF_o, lgDF_m, isAlO_al, ldC_nms, nms_len]
      refine callF_of c5 ?_
      simp only [evX, evY, evZ, forall_const, implies_true, initE, stepF, D.clean, mvF, moF, tkF, shF, ariF, ciF, catF, scF, ebF, eqF, eqOk, eqPr, enF, notF, ngF, cvF, csF, csbF, lenF, lenSF, ixF, iaF, PX.slot, iaAF, faF, ldF, D.mem, stF, bxF, mkSF, boundF, fldF, ixAF, mmF2, D.plain, D.isPure, optAll, D.dull, callVF, splice, D.cells, D.one, sets, resT, D.flat, D.flat0, D.simple, Nat.reduceBNe, Nat.reduceLT, reduceIte, Nat.reduceEqDiff, Nat.reduceAdd, Nat.reduceMul, Nat.reduceSub, Nat.reduceLeDiff, Int.reduceToNat, Int.reduceLT, Int.reduceLE, Int.reduceEq, Int.reduceNeg, Int.reduceSub, Int.reduceAdd, Int.reduceMul, stG_own, GF_eq, faMF_b, faMF_m, lgMF_b, lgMF_m, lgMC_al, lgMC_sl, lgMC_str, sgMF_b, sgMF_m, ldMF_b, ldMF_m, appF_no, fset0, fsetS, fldOk_al, fldOk_str, fldOk_sl, isOwn_o, unM_al, unM_str, unM_sl, bldQF_o, stQF_o, lgDF_m, isAlO_al, ldC_nms, nms_len]
      refine callF_of c6 ?_
      simp only [evX, evY, evZ, forall_const, implies_true, initE, stepF, D.clean, mvF, moF, tkF, shF, ariF, ciF, catF, scF, ebF, eqF, eqOk, eqPr, enF, notF, ngF, cvF, csF, csbF, lenF, lenSF, ixF, iaF, PX.slot, iaAF, faF, ldF, D.mem, stF, bxF, mkSF, boundF, fldF, ixAF, mmF2, D.plain, D.isPure, optAll, D.dull, callVF, splice, D.cells, D.one, sets, resT, D.flat, D.flat0, D.simple, Nat.reduceBNe, Nat.reduceLT, reduceIte, Nat.reduceEqDiff, Nat.reduceAdd, Nat.reduceMul, Nat.reduceSub, Nat.reduceLeDiff, Int.reduceToNat, Int.reduceLT, Int.reduceLE, Int.reduceEq, Int.reduceNeg, Int.reduceSub, Int.reduceAdd, Int.reduceMul, stG_own, GF_eq, faMF_b, faMF_m, lgMF_b, lgMF_m, lgMC_al, lgMC_sl, lgMC_str, sgMF_b, sgMF_m, ldMF_b, ldMF_m, appF_no, fset0, fsetS, fldOk_al, fldOk_str, fldOk_sl, isOwn_o, unM_al, unM_str, unM_sl, bldQF_o, stQF_o, lgDF_m, isAlO_al]
      refine callF_of c8 ?_
      simp only [evX, evY, evZ, forall_const, implies_true, initE, stepF, D.clean, mvF, moF, tkF, shF, ariF, ciF, catF, scF, ebF, eqF, eqOk, eqPr, enF, notF, ngF, cvF, csF, csbF, lenF, lenSF, ixF, iaF, PX.slot, iaAF, faF, ldF, D.mem, stF, bxF, mkSF, boundF, fldF, ixAF, mmF2, D.plain, D.isPure, optAll, D.dull, callVF, splice, D.cells, D.one, sets, resT, D.flat, D.flat0, D.simple, Nat.reduceBNe, Nat.reduceLT, reduceIte, Nat.reduceEqDiff, Nat.reduceAdd, Nat.reduceMul, Nat.reduceSub, Nat.reduceLeDiff, Int.reduceToNat, Int.reduceLT, Int.reduceLE, Int.reduceEq, Int.reduceNeg, Int.reduceSub, Int.reduceAdd, Int.reduceMul, stG_own, GF_eq, faMF_b, faMF_m, lgMF_b, lgMF_m, lgMC_al, lgMC_sl, lgMC_str, sgMF_b, sgMF_m, ldMF_b, ldMF_m, appF_no, fset0, fsetS, fldOk_al, fldOk_str, fldOk_sl, isOwn_o, unM_al, unM_str, unM_sl, bldQF_o, stQF_o, lgDF_m, isAlO_al]
      refine callF_of c7 ?_
      simp only [evX, evY, evZ, forall_const, implies_true, initE, stepF, D.clean, mvF, moF, tkF, shF, ariF, ciF, catF, scF, ebF, eqF, eqOk, eqPr, enF, notF, ngF, cvF, csF, csbF, lenF, lenSF, ixF, iaF, PX.slot, iaAF, faF, ldF, D.mem, stF, bxF, mkSF, boundF, fldF, ixAF, mmF2, D.plain, D.isPure, optAll, D.dull, callVF, splice, D.cells, D.one, sets, resT, D.flat, D.flat0, D.simple, Nat.reduceBNe, Nat.reduceLT, reduceIte, Nat.reduceEqDiff, Nat.reduceAdd, Nat.reduceMul, Nat.reduceSub, Nat.reduceLeDiff, Int.reduceToNat, Int.reduceLT, Int.reduceLE, Int.reduceEq, Int.reduceNeg, Int.reduceSub, Int.reduceAdd, Int.reduceMul, stG_own, GF_eq, faMF_b, faMF_m, lgMF_b, lgMF_m, lgMC_al, lgMC_sl, lgMC_str, sgMF_b, sgMF_m, ldMF_b, ldMF_m, appF_no, fset0, fsetS, fldOk_al, fldOk_str, fldOk_sl, isOwn_o, unM_al, unM_str, unM_sl, bldQF_o, stQF_o, lgDF_m, isAlO_al]
      refine callF_of c9 ?_
      simp only [evX, evY, evZ, forall_const, implies_true, initE, stepF, D.clean, mvF, moF, tkF, shF, ariF, ciF, catF, scF, ebF, eqF, eqOk, eqPr, enF, notF, ngF, cvF, csF, csbF, lenF, lenSF, ixF, iaF, PX.slot, iaAF, faF, ldF, D.mem, stF, bxF, mkSF, boundF, fldF, ixAF, mmF2, D.plain, D.isPure, optAll, D.dull, callVF, splice, D.cells, D.one, sets, resT, D.flat, D.flat0, D.simple, Nat.reduceBNe, Nat.reduceLT, reduceIte, Nat.reduceEqDiff, Nat.reduceAdd, Nat.reduceMul, Nat.reduceSub, Nat.reduceLeDiff, Int.reduceToNat, Int.reduceLT, Int.reduceLE, Int.reduceEq, Int.reduceNeg, Int.reduceSub, Int.reduceAdd, Int.reduceMul, stG_own, GF_eq, faMF_b, faMF_m, lgMF_b, lgMF_m, lgMC_al, lgMC_sl, lgMC_str, sgMF_b, sgMF_m, ldMF_b, ldMF_m, appF_no, fset0, fsetS, fldOk_al, fldOk_str, fldOk_sl, isOwn_o, unM_al, unM_str, unM_sl, bldQF_o, stQF_o, lgDF_m, isAlO_al]
      exact ⟨by omega, by omega, ⟨by omega, by omega⟩, ⟨k + 1, false, by omega, by rw [ea, em, eb]; exact ⟨rfl, rfl, rfl⟩⟩, by omega⟩
    · exact ⟨by omega, ⟨k + 1, false, by omega, by rw [ea, show min (k + 1 + 1) p.n = min (k + 1) p.n by omega]; exact ⟨rfl, rfl, rfl⟩⟩, by omega⟩
  · obtain rfl : k = p.n := by omega
    have hk2 : p.n - 1 < p.n := by omega
    have e9 : ((p.n : Int) - 1).toNat = p.n - 1 := by omega
    rw [e9]
    have em : min (p.n + 1) p.n = p.n := by omega
    rw [em] at pl2 ⊢
    have ex : p.ax p.n = nrm (p.t (p.n - 1)) := by unfold Pf.ax; rw [if_neg (by omega), if_pos rfl]
    refine ⟨⟨by omega, by omega⟩, ⟨by omega, by omega, by omega⟩, hk2, ?_⟩
    refine callF_of (cn _ hk2) ?_
    simp only [evX, evY, evZ, forall_const, implies_true, initE, stepF, D.clean, mvF, moF, tkF, shF, ariF, ciF, catF, scF, ebF, eqF, eqOk, eqPr, enF, notF, ngF, cvF, csF, csbF, lenF, lenSF, ixF, iaF, PX.slot, iaAF, faF, ldF, D.mem, stF, bxF, mkSF, boundF, fldF, ixAF, mmF2, D.plain, D.isPure, optAll, D.dull, callVF, splice, D.cells, D.one, sets, resT, D.flat, D.flat0, D.simple, Nat.reduceBNe, Nat.reduceLT, reduceIte, Nat.reduceEqDiff, Nat.reduceAdd, Nat.reduceMul, Nat.reduceSub, Nat.reduceLeDiff, Int.reduceToNat, Int.reduceLT, Int.reduceLE, Int.reduceEq, Int.reduceNeg, Int.reduceSub, Int.reduceAdd, Int.reduceMul, stG_own, GF_eq, faMF_b, faMF_m, lgMF_b, lgMF_m, lgMC_al, lgMC_sl, lgMC_str, sgMF_b, sgMF_m, ldMF_b, ldMF_m, appF_no, fset0, fsetS, fldOk_al, fldOk_str, fldOk_sl, isOwn_o, unM_al, unM_str, unM_sl, bldQF_o, stQF_o, lgDF_m, isAlO_al, ldC_nms, nms_len]
    refine ⟨by omega, by omega, rfl, ?_⟩
    have eb : pts (lst (p.n + 1) p.ax) = pts (lst p.n p.ax) ++ [.str (rt (nrm (p.t (p.n - 1))).1), .str (rt (nrm (p.t (p.n - 1))).2)] := by
      rw [lst_succ, pts_snoc, ex]; rfl
    rw [moD, eb]
    rfl
end Go.Proofs
