/- The pure readings of functions of this seat, printed by program (pcfile.py). Own work. -/
import Derived.Test.YthfgjhnckegneaaGreatDoorProg
import Derived.Test.YthfgjhnckegneaaGreatDoorPj
import Derived.KernelRfl
namespace Go.Proofs
open Go Go.Pi Go.RowKit
set_option maxRecDepth 100000

/-- klippe/klippelaw22.ColumnTexts -/
def pc3 : PC := .seq (.reg [
   ⟨some 1, .bx 9 (.v 0), none⟩,
   ⟨some 2, .cp (.k (.bool false)), none⟩] [1, 1000006])
 (.seq (.seq (.reg [
     ⟨some 10, .call 11 [], none⟩,
     ⟨some 11, .not (.v 10), none⟩] [1, 11, 1000006])
   (.cnd (.v 11) (.seq (.reg [
       ⟨some 2, .cp (.k (.bool false)), none⟩] [2])
     (.ret))
    (.skip)))
  (.seq (.reg [
     ⟨some 12, .ld true 9 (.v 1), none⟩,
     ⟨some 13, .call 12 [.v 12], none⟩,
     ⟨some 3, .tk 13, none⟩] [3, 1000006])
   (.seq (.reg [
      ⟨some 15, .mv (.v 3), none⟩,
      ⟨some 16, .call 13 [.o 15 3], none⟩,
      ⟨some 14, .cp (.v 16), none⟩,
      ⟨some 17, .ext 14 0, none⟩,
      ⟨some 18, .ext 14 1, none⟩,
      ⟨some 4, .cp (.v 17), none⟩,
      ⟨some 5, .cp (.v 18), none⟩] [3, 4, 5, 1000006])
    (.seq (.reg [
       ⟨some 6, .alG 9, none⟩] [3, 4, 5, 6, 1000006])
     (.seq (.seq (.reg [
         ⟨some 19, .tk 3, none⟩,
         ⟨some 20, .call 14 [.v 19], none⟩] [4, 5, 6, 20, 1000006])
       (.blk 0 (.rfn 53 true 3 20 21 22 [8, 9, 21, 22, 23, 24, 25, 26, 27, 28, 29, 30, 31, 32, 33, 34, 35, 36, 37, 38]
         (.reg [
           ⟨some 8, .alloc [.str [], .str [], .str []], none⟩,
           ⟨none, .st 3 (.v 8) (.v 22), none⟩] [4, 5, 6, 8, 20, 1000006])
         (.blk 1 (.seq (.reg [
             ⟨some 23, .fa 2 (.v 8), none⟩,
             ⟨some 24, .ld false 1 (.o 23 8), none⟩,
             ⟨some 9, .cp (.v 24), none⟩] [4, 5, 6, 8, 9, 20, 1000006])
           (.seq (.seq (.reg [
               ⟨some 25, .cp (.v 9), none⟩,
               ⟨some 26, .sc .eql (.v 25) (.k (.str [])), none⟩] [4, 5, 6, 8, 9, 20, 26, 1000006])
             (.cnd (.v 26) (.reg [
                ⟨some 9, .cp (.k (.str [45])), none⟩] [4, 5, 6, 8, 9, 20, 1000006])
              (.skip)))
            (.reg [
              ⟨some 27, .lg 6, none⟩,
              ⟨some 28, .fa 0 (.v 8), none⟩,
              ⟨some 29, .ld false 1 (.o 28 8), none⟩,
              ⟨some 30, .cat (.v 29) (.k (.str [32])), none⟩,
              ⟨some 31, .fa 1 (.v 8), none⟩,
              ⟨some 32, .ld false 1 (.o 31 8), none⟩,
              ⟨some 33, .cat (.v 30) (.v 32), none⟩,
              ⟨some 34, .cat (.v 33) (.k (.str [32])), none⟩,
              ⟨some 35, .cp (.v 9), none⟩,
              ⟨some 36, .cat (.v 34) (.v 35), none⟩,
              ⟨some 37, .bldS 9 [.str []] 1 [(0, 1, .v 36)], none⟩,
              ⟨some 38, .app 9 1 16 (.o 27 1000006) (.v 37), none⟩,
              ⟨none, .sgO 6 (.v 38) [27], none⟩] [4, 5, 6, 20, 1000006])))) [4, 5, 6, 20, 1000006])))
      (.seq (.reg [
         ⟨some 39, .cp (.v 5), none⟩,
         ⟨some 40, .ci .eql (.v 39) (.k (.int .i64 0)), none⟩,
         ⟨some 41, .cp (.v 40), none⟩,
         ⟨some 42, .cp (.v 4), (some (41, true))⟩,
         ⟨some 43, .lg 6, (some (41, true))⟩,
         ⟨some 44, .call 15 [.v 42, .o 43 1000006], (some (41, true))⟩,
         ⟨some 45, .pick (.v 41) (.v 44) (.k (.bool false)), none⟩,
         ⟨some 2, .cp (.v 45), none⟩] [2])
       (.ret)))))))
def rs3 : List RV := [.t 2]
theorem chk3 : chkFnR Tryz.prog Tryz.f3 1 pc3 rs3 = true := by kernel_rfl
theorem nc3 : pc3.noCus = true := by kernel_rfl
theorem rule3 {L : World → Prop} (hL : ∀ w w', L w → Below w.heap.size w w' → L w') (hbk : ∀ q ∈ pc3.backs, IsBack Tryz.prog q.1 q.2.1 q.2.2) {ds : List D} {r : D} (hr0 : aliasOf r = none) (hlen : ds.length = 1) (hp : ds.all (fun d => (aliasOf d).isNone) = true)
    (h : wC (Con Tryz.prog L) pc3 (retQ rs3 r) (initE 0 ds)) : Con Tryz.prog L 3 ds r :=
  con_chkR hL Tryz.func3 chk3 hbk (fun c _ q hq => by rw [cusL_nil c _ nc3] at hq; cases hq) hr0 hlen hp (wC_sound h)

/-- klippe/klippelaw22.ColumnJoins -/
def pc8 : PC := .seq (.reg [
   ⟨some 2, .bx 9 (.v 0), none⟩,
   ⟨some 3, .bx 9 (.v 1), none⟩,
   ⟨some 4, .cp (.k (.bool false)), none⟩] [2, 3])
 (.seq (.seq (.reg [
     ⟨some 17, .call 11 [], none⟩,
     ⟨some 18, .not (.v 17), none⟩] [2, 3, 18])
   (.cnd (.v 18) (.seq (.reg [
       ⟨some 4, .cp (.k (.bool false)), none⟩] [4])
     (.ret))
    (.skip)))
  (.seq (.reg [
     ⟨some 19, .fa 1 (.v 2), none⟩,
     ⟨some 20, .ld true 8 (.o 19 2), none⟩,
     ⟨some 21, .fa 1 (.v 3), none⟩,
     ⟨none, .st 8 (.o 21 3) (.v 20), none⟩] [2, 3])
   (.seq (.reg [
      ⟨some 22, .ld true 9 (.v 2), none⟩,
      ⟨some 23, .call 12 [.v 22], none⟩,
      ⟨some 24, .ld true 9 (.v 3), none⟩,
      ⟨some 25, .call 12 [.v 24], none⟩,
      ⟨some 5, .tk 23, none⟩,
      ⟨some 6, .tk 25, none⟩] [3, 5, 6])
    (.seq (.seq (.reg [
        ⟨some 26, .fa 0 (.v 3), none⟩,
        ⟨some 27, .ld false 1 (.o 26 3), none⟩,
        ⟨some 28, .len (.v 27), none⟩,
        ⟨some 29, .ci .gtr (.v 28) (.k (.int .i64 0)), none⟩,
        ⟨some 30, .cp (.v 29), none⟩,
        ⟨some 31, .fa 0 (.v 3), (some (30, true))⟩,
        ⟨some 32, .ld false 1 (.o 31 3), (some (30, true))⟩,
        ⟨some 33, .ia 1 (.v 32) (.k (.int .i64 0)), (some (30, true))⟩,
        ⟨some 34, .ld false 1 (.v 33), (some (30, true))⟩,
        ⟨some 35, .ari .rem .u8 (.v 34) (.k (.int .u8 11)), (some (30, true))⟩,
        ⟨some 36, .ci .eql (.v 35) (.k (.int .u8 10)), (some (30, true))⟩,
        ⟨some 37, .pick (.v 30) (.v 36) (.k (.bool false)), none⟩] [5, 6, 37])
      (.cnd (.v 37) (.reg [
         ⟨some 38, .mv (.v 6), none⟩,
         ⟨some 39, .mv (.v 6), none⟩,
         ⟨some 40, .ia 3 (.o 38 6) (.k (.int .i64 0)), none⟩,
         ⟨some 41, .fa 1 (.o 40 6), none⟩,
         ⟨none, .st 1 (.o 41 6) (.k (.str [53])), none⟩,
         ⟨some 42, .ia 3 (.o 39 6) (.k (.int .i64 0)), none⟩,
         ⟨some 43, .fa 2 (.o 42 6), none⟩,
         ⟨none, .st 1 (.o 43 6) (.k (.str [])), none⟩] [5, 6])
       (.skip)))
     (.seq (.reg [
        ⟨some 45, .mv (.v 5), none⟩,
        ⟨some 46, .mv (.v 6), none⟩,
        ⟨some 47, .call 17 [.o 45 5, .o 46 6], none⟩,
        ⟨some 44, .cp (.v 47), none⟩,
        ⟨some 48, .ext 44 0, none⟩,
        ⟨some 49, .ext 44 1, none⟩,
        ⟨some 7, .cp (.v 48), none⟩,
        ⟨some 8, .cp (.v 49), none⟩] [5, 6, 7, 8])
      (.seq (.reg [
         ⟨some 51, .mv (.v 5), none⟩,
         ⟨some 52, .mv (.v 6), none⟩,
         ⟨some 53, .call 34 [.o 51 5, .o 52 6], none⟩,
         ⟨some 50, .cp (.v 53), none⟩,
         ⟨some 54, .ext 50 0, none⟩,
         ⟨some 55, .ext 50 1, none⟩,
         ⟨some 9, .cp (.v 54), none⟩,
         ⟨some 10, .cp (.v 55), none⟩] [5, 6, 7, 8, 9, 10])
       (.seq (.seq (.reg [
           ⟨some 56, .cp (.v 8), none⟩,
           ⟨some 57, .cp (.v 10), none⟩,
           ⟨some 58, .ci .neq (.v 56) (.v 57), none⟩,
           ⟨some 59, .cp (.v 58), none⟩,
           ⟨some 60, .cp (.v 7), (some (59, false))⟩,
           ⟨some 61, .cp (.v 9), (some (59, false))⟩,
           ⟨some 62, .call 18 [.v 60, .v 61], (some (59, false))⟩,
           ⟨some 63, .not (.v 62), (some (59, false))⟩,
           ⟨some 64, .pick (.v 59) (.k (.bool true)) (.v 63), none⟩] [5, 6, 7, 8, 64])
         (.cnd (.v 64) (.seq (.reg [
             ⟨some 4, .cp (.k (.bool false)), none⟩] [4])
           (.ret))
          (.skip)))
        (.seq (.seq (.reg [
            ⟨some 65, .cp (.v 8), none⟩,
            ⟨some 66, .ci .neq (.v 65) (.k (.int .i64 0)), none⟩] [5, 6, 7, 66])
          (.cnd (.v 66) (.seq (.reg [
              ⟨some 4, .cp (.k (.bool true)), none⟩] [4])
            (.ret))
           (.skip)))
         (.seq (.seq (.reg [
             ⟨some 67, .sh (.v 5), none⟩,
             ⟨some 68, .sh (.v 6), none⟩,
             ⟨some 69, .bldS 28 [.sl 0 []] 2 [(0, 1, .v 67), (1, 1, .v 68)], none⟩,
             ⟨some 70, .len (.v 69), none⟩,
             ⟨some 71, .cp (.k (.int .i64 0)), none⟩] [7, 69, 70, 71])
           (.blk 0 (.loop (.seq (.reg [
                ⟨some 72, .ci .lss (.v 71) (.v 70), none⟩] [7, 69, 70, 71, 72])
              (.seq (.cnd (.v 72) (.skip)
                (.exit 0))
               (.seq (.blk 1 (.seq (.reg [
                    ⟨some 73, .ia 1 (.v 69) (.v 71), none⟩,
                    ⟨some 74, .ld false 1 (.o 73 69), none⟩,
                    ⟨some 12, .cp (.v 74), none⟩] [7, 12, 69, 70, 71])
                  (.seq (.reg [
                     ⟨some 76, .cp (.v 12), none⟩,
                     ⟨some 77, .call 35 [.v 76], none⟩,
                     ⟨some 75, .cp (.v 77), none⟩,
                     ⟨some 78, .ext 75 0, none⟩,
                     ⟨some 79, .ext 75 1, none⟩,
                     ⟨some 13, .cp (.v 78), none⟩,
                     ⟨some 14, .cp (.v 79), none⟩] [7, 12, 13, 14, 69, 70, 71])
                   (.seq (.reg [
                      ⟨some 81, .cp (.v 7), none⟩,
                      ⟨some 82, .cp (.v 13), none⟩,
                      ⟨some 83, .call 33 [.v 81, .v 82], none⟩,
                      ⟨some 80, .cp (.v 83), none⟩,
                      ⟨some 84, .ext 80 0, none⟩,
                      ⟨some 85, .ext 80 1, none⟩,
                      ⟨some 15, .cp (.v 84), none⟩,
                      ⟨some 16, .cp (.v 85), none⟩] [7, 12, 14, 15, 16, 69, 70, 71])
                    (.seq (.reg [
                       ⟨some 86, .cp (.v 14), none⟩,
                       ⟨some 87, .ci .neq (.v 86) (.k (.int .i64 0)), none⟩,
                       ⟨some 88, .cp (.v 87), none⟩,
                       ⟨some 89, .cp (.v 16), (some (88, false))⟩,
                       ⟨some 90, .ci .neq (.v 89) (.k (.int .i64 0)), (some (88, false))⟩,
                       ⟨some 91, .pick (.v 88) (.k (.bool true)) (.v 90), none⟩,
                       ⟨some 92, .cp (.v 91), none⟩,
                       ⟨some 93, .cp (.v 15), (some (92, false))⟩,
                       ⟨some 94, .cp (.v 12), (some (92, false))⟩,
                       ⟨some 95, .call 18 [.v 93, .v 94], (some (92, false))⟩,
                       ⟨some 96, .not (.v 95), (some (92, false))⟩,
                       ⟨some 97, .pick (.v 92) (.k (.bool true)) (.v 96), none⟩] [7, 69, 70, 71, 97])
                     (.cnd (.v 97) (.seq (.reg [
                         ⟨some 4, .cp (.k (.bool false)), none⟩] [4])
                       (.ret))
                      (.skip)))))))
                (.reg [
                  ⟨some 98, .ari .add .i64 (.v 71) (.k (.int .i64 1)), none⟩,
                  ⟨some 71, .cp (.v 98), none⟩] [7, 69, 70, 71])))))))
          (.seq (.reg [
             ⟨some 4, .cp (.k (.bool true)), none⟩] [4])
           (.ret)))))))))))
def rs8 : List RV := [.t 4]
theorem chk8 : chkFn Tryz.prog Tryz.f8 2 pc8 rs8 = true := by kernel_rfl
theorem rule8 {L : World → Prop} (hL : ∀ w w', L w → Below w.heap.size w w' → L w') {ds : List D} {r : D} (hr0 : aliasOf r = none) (hlen : ds.length = 2) (hp : ds.all (fun d => (aliasOf d).isNone) = true)
    (h : wC (Con Tryz.prog L) pc8 (retQ rs8 r) (initE 0 ds)) : Con Tryz.prog L 8 ds r :=
  con_chk hL Tryz.func8 chk8 hr0 hlen hp (wC_sound h)

/-- klippe/klippelaw22.known -/
def pc11 : PC := .seq (.reg [
   ⟨some 0, .cp (.k (.bool false)), none⟩] [])
 (.seq (.reg [
    ⟨some 8, .call 48 [], none⟩,
    ⟨some 9, .call 22 [.v 8, .k (.str [65]), .k (.str [67])], none⟩,
    ⟨some 7, .cp (.v 9), none⟩,
    ⟨some 10, .ext 7 0, none⟩,
    ⟨some 11, .ext 7 1, none⟩,
    ⟨some 1, .alloc [.str [], .str []], none⟩,
    ⟨none, .st 2 (.v 1) (.v 10), none⟩,
    ⟨some 2, .cp (.v 11), none⟩] [1, 2])
  (.seq (.reg [
     ⟨some 13, .call 48 [], none⟩,
     ⟨some 14, .call 13 [.v 13], none⟩,
     ⟨some 12, .cp (.v 14), none⟩,
     ⟨some 15, .ext 12 0, none⟩,
     ⟨some 16, .ext 12 1, none⟩,
     ⟨some 3, .cp (.v 15), none⟩,
     ⟨some 4, .cp (.v 16), none⟩] [1, 2, 3, 4])
   (.seq (.reg [
      ⟨some 18, .bld [.str [], .str [], .str []] [(0, 1, .k (.str [65])), (1, 1, .k (.str [48]))], none⟩,
      ⟨some 19, .bld [.str [], .str [], .str []] [(0, 1, .k (.str [67])), (1, 1, .k (.str [48]))], none⟩,
      ⟨some 20, .bldS 39 [.str [], .str [], .str []] 2 [(0, 3, .v 18), (3, 3, .v 19)], none⟩,
      ⟨some 21, .bld [.str [], .str [], .str []] [(0, 1, .k (.str [66])), (1, 1, .k (.str [48]))], none⟩,
      ⟨some 22, .bld [.str [], .str [], .str []] [(0, 1, .k (.str [67])), (1, 1, .k (.str [48]))], none⟩,
      ⟨some 23, .bldS 39 [.str [], .str [], .str []] 2 [(0, 3, .v 21), (3, 3, .v 22)], none⟩,
      ⟨some 24, .call 17 [.v 20, .v 23], none⟩,
      ⟨some 17, .cp (.v 24), none⟩,
      ⟨some 25, .ext 17 0, none⟩,
      ⟨some 26, .ext 17 1, none⟩,
      ⟨some 5, .cp (.v 25), none⟩,
      ⟨some 6, .cp (.v 26), none⟩] [1, 2, 3, 4, 5, 6])
    (.seq (.reg [
       ⟨some 27, .cp (.v 2), none⟩,
       ⟨some 28, .ci .eql (.v 27) (.k (.int .i64 0)), none⟩,
       ⟨some 29, .cp (.v 28), none⟩,
       ⟨some 30, .cp (.v 4), (some (29, true))⟩,
       ⟨some 31, .ci .eql (.v 30) (.k (.int .i64 0)), (some (29, true))⟩,
       ⟨some 32, .pick (.v 29) (.v 31) (.k (.bool false)), none⟩,
       ⟨some 33, .cp (.v 32), none⟩,
       ⟨some 34, .cp (.v 6), (some (33, true))⟩,
       ⟨some 35, .ci .eql (.v 34) (.k (.int .i64 0)), (some (33, true))⟩,
       ⟨some 36, .pick (.v 33) (.v 35) (.k (.bool false)), none⟩,
       ⟨some 37, .cp (.v 36), none⟩,
       ⟨some 38, .ld true 2 (.v 1), (some (37, true))⟩,
       ⟨some 39, .bld [.str [], .str []] [(0, 1, .k (.str [48])), (1, 1, .k (.str [51]))], (some (37, true))⟩,
       ⟨some 40, .eq false [2, 2] (.v 38) (.v 39), (some (37, true))⟩,
       ⟨some 41, .pick (.v 37) (.v 40) (.k (.bool false)), none⟩,
       ⟨some 42, .cp (.v 41), none⟩,
       ⟨some 43, .cp (.v 3), (some (42, true))⟩,
       ⟨some 44, .bldS 9 [.str []] 3 [(0, 1, .k (.str [67, 32, 49, 32, 45])), (1, 1, .k (.str [66, 32, 48, 32, 51])), (2, 1, .k (.str [65, 32, 49, 32, 50]))], (some (42, true))⟩,
       ⟨some 45, .call 15 [.v 43, .v 44], (some (42, true))⟩,
       ⟨some 46, .pick (.v 42) (.v 45) (.k (.bool false)), none⟩,
       ⟨some 47, .cp (.v 46), none⟩,
       ⟨some 48, .cp (.v 5), (some (47, true))⟩,
       ⟨some 49, .len (.v 48), (some (47, true))⟩,
       ⟨some 50, .ci .eql (.v 49) (.k (.int .i64 3)), (some (47, true))⟩,
       ⟨some 51, .pick (.v 47) (.v 50) (.k (.bool false)), none⟩,
       ⟨some 52, .cp (.v 51), none⟩,
       ⟨some 53, .cp (.v 5), (some (52, true))⟩,
       ⟨some 54, .ia 3 (.v 53) (.k (.int .i64 1)), (some (52, true))⟩,
       ⟨some 55, .fa 0 (.v 54), (some (52, true))⟩,
       ⟨some 56, .ld false 1 (.o 55 54), (some (52, true))⟩,
       ⟨some 57, .sc .eql (.v 56) (.k (.str [66])), (some (52, true))⟩,
       ⟨some 58, .pick (.v 52) (.v 57) (.k (.bool false)), none⟩,
       ⟨some 0, .cp (.v 58), none⟩] [0])
     (.ret)))))
def rs11 : List RV := [.t 0]
theorem chk11 : chkFn Tryz.prog Tryz.f11 0 pc11 rs11 = true := by kernel_rfl
theorem rule11 {L : World → Prop} (hL : ∀ w w', L w → Below w.heap.size w w' → L w') {ds : List D} {r : D} (hr0 : aliasOf r = none) (hlen : ds.length = 0) (hp : ds.all (fun d => (aliasOf d).isNone) = true)
    (h : wC (Con Tryz.prog L) pc11 (retQ rs11 r) (initE 0 ds)) : Con Tryz.prog L 11 ds r :=
  con_chk hL Tryz.func11 chk11 hr0 hlen hp (wC_sound h)

/-- klippe/klippelaw22.Make -/
def pc12 : PC := .seq (.reg [
   ⟨some 1, .bx 9 (.v 0), none⟩,
   ⟨some 2, .nil 39, none⟩] [1])
 (.seq (.reg [
    ⟨some 3, .nil 39, none⟩] [1, 3])
  (.seq (.seq (.reg [
      ⟨some 9, .fa 0 (.v 1), none⟩,
      ⟨some 10, .ld false 1 (.o 9 1), none⟩,
      ⟨some 11, .call 49 [.v 10], none⟩,
      ⟨some 12, .bldS 5 [.int .u8 0] 1 [(0, 1, .k (.int .u8 0))], none⟩,
      ⟨some 13, .app 5 1 1 (.v 11) (.v 12), none⟩,
      ⟨some 14, .len (.v 13), none⟩,
      ⟨some 15, .cp (.k (.int .i64 0)), none⟩] [1, 3, 13, 14, 15])
    (.blk 0 (.loop (.seq (.reg [
         ⟨some 16, .ci .lss (.v 15) (.v 14), none⟩] [1, 3, 13, 14, 15, 16])
       (.seq (.cnd (.v 16) (.skip)
         (.exit 0))
        (.seq (.blk 1 (.seq (.reg [
             ⟨some 17, .ia 1 (.v 13) (.v 15), none⟩,
             ⟨some 18, .ld false 1 (.o 17 13), none⟩,
             ⟨some 5, .cp (.v 18), none⟩] [1, 3, 5, 13, 14, 15])
           (.seq (.reg [
              ⟨some 19, .call 50 [], none⟩,
              ⟨some 20, .cp (.v 5), none⟩,
              ⟨some 21, .ari .rem .u8 (.v 20) (.k (.int .u8 6)), none⟩,
              ⟨some 22, .ia 1 (.v 19) (.v 21), none⟩,
              ⟨some 23, .ld false 1 (.o 22 19), none⟩,
              ⟨some 6, .alloc [.str []], none⟩,
              ⟨none, .st 1 (.v 6) (.v 23), none⟩] [1, 3, 5, 6, 13, 14, 15])
            (.seq (.seq (.reg [
                ⟨some 24, .mv (.v 3), none⟩,
                ⟨some 25, .len (.o 24 3), none⟩,
                ⟨some 26, .ci .eql (.v 25) (.k (.int .i64 4)), none⟩,
                ⟨some 27, .cp (.v 26), none⟩,
                ⟨some 28, .mv (.v 3), (some (27, false))⟩,
                ⟨some 29, .mkf 52 [.v 6], (some (27, false))⟩,
                ⟨some 30, .call 51 [.o 28 3, .v 29], (some (27, false))⟩,
                ⟨some 31, .pick (.v 27) (.k (.bool true)) (.v 30), none⟩] [1, 3, 5, 6, 13, 14, 15, 31])
              (.cnd (.v 31) (.exit 1)
               (.skip)))
             (.seq (.reg [
                ⟨some 32, .cp (.v 5), none⟩,
                ⟨some 33, .ari .rem .u8 (.v 32) (.k (.int .u8 6)), none⟩,
                ⟨some 34, .cvI .i64 (.v 33), none⟩,
                ⟨some 35, .ari .rem .i64 (.v 34) (.k (.int .i64 4)), none⟩,
                ⟨some 36, .fa 1 (.v 1), none⟩,
                ⟨some 37, .iaA 4 2 (.o 36 1) (.v 35), none⟩,
                ⟨some 38, .ld true 2 (.o 37 1), none⟩,
                ⟨some 7, .alloc [.int .u8 0, .int .u8 0], none⟩,
                ⟨none, .st 2 (.v 7) (.v 38), none⟩] [1, 3, 6, 7, 13, 14, 15])
              (.seq (.reg [
                 ⟨some 39, .ld false 1 (.v 6), none⟩,
                 ⟨some 40, .iaA 2 1 (.v 7) (.k (.int .i64 0)), none⟩,
                 ⟨some 41, .ld false 1 (.o 40 7), none⟩,
                 ⟨some 42, .ari .rem .u8 (.v 41) (.k (.int .u8 4)), none⟩,
                 ⟨some 43, .cvI .i64 (.v 42), none⟩,
                 ⟨some 44, .call 16 [.v 43, .k (.int .i64 2)], none⟩,
                 ⟨some 45, .bld [.str [], .str [], .str []] [(0, 1, .v 39), (1, 1, .v 44)], none⟩,
                 ⟨some 8, .alloc [.str [], .str [], .str []], none⟩,
                 ⟨none, .st 3 (.v 8) (.v 45), none⟩] [1, 3, 7, 8, 13, 14, 15])
               (.seq (.seq (.reg [
                   ⟨some 46, .iaA 2 1 (.v 7) (.k (.int .i64 1)), none⟩,
                   ⟨some 47, .ld false 1 (.o 46 7), none⟩,
                   ⟨some 48, .ari .rem .u8 (.v 47) (.k (.int .u8 8)), none⟩,
                   ⟨some 49, .ci .neq (.v 48) (.k (.int .u8 7)), none⟩] [1, 3, 7, 8, 13, 14, 15, 49])
                 (.cnd (.v 49) (.reg [
                    ⟨some 50, .fa 1 (.v 8), none⟩,
                    ⟨some 51, .ld false 1 (.o 50 8), none⟩,
                    ⟨some 52, .iaA 2 1 (.v 7) (.k (.int .i64 1)), none⟩,
                    ⟨some 53, .ld false 1 (.o 52 7), none⟩,
                    ⟨some 54, .ari .rem .u8 (.v 53) (.k (.int .u8 8)), none⟩,
                    ⟨some 55, .cvI .i64 (.v 54), none⟩,
                    ⟨some 56, .call 16 [.v 55, .k (.int .i64 2)], none⟩,
                    ⟨some 57, .call 25 [.v 51, .v 56], none⟩,
                    ⟨some 58, .fa 2 (.v 8), none⟩,
                    ⟨none, .st 1 (.o 58 8) (.v 57), none⟩] [1, 3, 8, 13, 14, 15])
                  (.skip)))
                (.reg [
                  ⟨some 59, .tk 3, none⟩,
                  ⟨some 60, .ld true 3 (.v 8), none⟩,
                  ⟨some 61, .bldS 39 [.str [], .str [], .str []] 1 [(0, 3, .v 60)], none⟩,
                  ⟨some 62, .app 39 3 48 (.v 59) (.v 61), none⟩,
                  ⟨some 3, .tk 62, none⟩] [1, 3, 13, 14, 15]))))))))
         (.reg [
           ⟨some 63, .ari .add .i64 (.v 15) (.k (.int .i64 1)), none⟩,
           ⟨some 15, .cp (.v 63), none⟩] [1, 3, 13, 14, 15])))))))
   (.seq (.reg [
      ⟨some 64, .tk 3, none⟩,
      ⟨some 2, .tk 64, none⟩] [2])
    (.ret))))
def rs12 : List RV := [.t 2]
theorem chk12 : chkFn Tryz.prog Tryz.f12 1 pc12 rs12 = true := by kernel_rfl
theorem rule12 {L : World → Prop} (hL : ∀ w w', L w → Below w.heap.size w w' → L w') {ds : List D} {r : D} (hr0 : aliasOf r = none) (hlen : ds.length = 1) (hp : ds.all (fun d => (aliasOf d).isNone) = true)
    (h : wC (Con Tryz.prog L) pc12 (retQ rs12 r) (initE 0 ds)) : Con Tryz.prog L 12 ds r :=
  con_chk hL Tryz.func12 chk12 hr0 hlen hp (wC_sound h)

/-- klippe/column.Text -/
def pc13 : PC := .seq (.reg [
   ⟨some 2, .nil 9, none⟩,
   ⟨some 3, .cp (.k (.int .i64 0)), none⟩] [0, 1000005])
 (.seq (.seq (.reg [
     ⟨some 9, .cp (.v 0), none⟩,
     ⟨some 10, .call 45 [.v 9], none⟩,
     ⟨some 4, .cp (.v 10), none⟩] [0, 4, 1000005])
   (.seq (.reg [
      ⟨some 11, .cp (.v 4), none⟩,
      ⟨some 12, .ci .neq (.v 11) (.k (.int .i64 0)), none⟩] [0, 4, 12, 1000005])
    (.cnd (.v 12) (.seq (.reg [
        ⟨some 13, .cp (.v 4), none⟩,
        ⟨some 2, .nil 9, none⟩,
        ⟨some 3, .cp (.v 13), none⟩] [2, 3])
      (.ret))
     (.skip))))
  (.seq (.reg [
     ⟨some 5, .alG 9, none⟩] [0, 5, 1000005])
   (.seq (.seq (.reg [
       ⟨some 14, .cp (.v 0), none⟩,
       ⟨some 15, .call 14 [.v 14], none⟩] [5, 15, 1000005])
     (.blk 0 (.rfn 53 true 3 15 16 17 [7, 8, 16, 17, 18, 19, 20, 21, 22, 23, 24, 25, 26, 27, 28, 29, 30, 31, 32, 33]
       (.reg [
         ⟨some 7, .alloc [.str [], .str [], .str []], none⟩,
         ⟨none, .st 3 (.v 7) (.v 17), none⟩] [5, 7, 15, 1000005])
       (.blk 1 (.seq (.reg [
           ⟨some 18, .fa 2 (.v 7), none⟩,
           ⟨some 19, .ld false 1 (.o 18 7), none⟩,
           ⟨some 8, .cp (.v 19), none⟩] [5, 7, 8, 15, 1000005])
         (.seq (.seq (.reg [
             ⟨some 20, .cp (.v 8), none⟩,
             ⟨some 21, .sc .eql (.v 20) (.k (.str [])), none⟩] [5, 7, 8, 15, 21, 1000005])
           (.cnd (.v 21) (.reg [
              ⟨some 8, .cp (.k (.str [45])), none⟩] [5, 7, 8, 15, 1000005])
            (.skip)))
          (.reg [
            ⟨some 22, .lg 5, none⟩,
            ⟨some 23, .fa 0 (.v 7), none⟩,
            ⟨some 24, .ld false 1 (.o 23 7), none⟩,
            ⟨some 25, .cat (.v 24) (.k (.str [32])), none⟩,
            ⟨some 26, .fa 1 (.v 7), none⟩,
            ⟨some 27, .ld false 1 (.o 26 7), none⟩,
            ⟨some 28, .cat (.v 25) (.v 27), none⟩,
            ⟨some 29, .cat (.v 28) (.k (.str [32])), none⟩,
            ⟨some 30, .cp (.v 8), none⟩,
            ⟨some 31, .cat (.v 29) (.v 30), none⟩,
            ⟨some 32, .bldS 9 [.str []] 1 [(0, 1, .v 31)], none⟩,
            ⟨some 33, .app 9 1 16 (.o 22 1000005) (.v 32), none⟩,
            ⟨none, .sgO 5 (.v 33) [22], none⟩] [5, 15, 1000005])))) [5, 15, 1000005])))
    (.seq (.reg [
       ⟨some 34, .lg 5, none⟩,
       ⟨some 2, .sh (.o 34 1000005), none⟩,
       ⟨some 3, .cp (.k (.int .i64 0)), none⟩] [2, 3])
     (.ret)))))
def rs13 : List RV := [.t 2, .t 3]
theorem chk13 : chkFnR Tryz.prog Tryz.f13 1 pc13 rs13 = true := by kernel_rfl
theorem nc13 : pc13.noCus = true := by kernel_rfl
theorem rule13 {L : World → Prop} (hL : ∀ w w', L w → Below w.heap.size w w' → L w') (hbk : ∀ q ∈ pc13.backs, IsBack Tryz.prog q.1 q.2.1 q.2.2) {ds : List D} {r : D} (hr0 : aliasOf r = none) (hlen : ds.length = 1) (hp : ds.all (fun d => (aliasOf d).isNone) = true)
    (h : wC (Con Tryz.prog L) pc13 (retQ rs13 r) (initE 0 ds)) : Con Tryz.prog L 13 ds r :=
  con_chkR hL Tryz.func13 chk13 hbk (fun c _ q hq => by rw [cusL_nil c _ nc13] at hq; cases hq) hr0 hlen hp (wC_sound h)

/-- slices.Equal[[]string,string] -/
def pc15 : PC := .seq (.reg [
   ⟨some 4, .cp (.k (.bool false)), none⟩] [0, 1])
 (.seq (.seq (.reg [
     ⟨some 6, .cp (.v 0), none⟩,
     ⟨some 7, .len (.v 6), none⟩,
     ⟨some 8, .cp (.v 1), none⟩,
     ⟨some 9, .len (.v 8), none⟩,
     ⟨some 10, .ci .neq (.v 7) (.v 9), none⟩] [0, 1, 10])
   (.cnd (.v 10) (.seq (.reg [
       ⟨some 4, .cp (.k (.bool false)), none⟩] [4])
     (.ret))
    (.skip)))
  (.seq (.seq (.reg [
      ⟨some 11, .cp (.v 0), none⟩,
      ⟨some 12, .len (.v 11), none⟩,
      ⟨some 13, .cp (.k (.int .i64 0)), none⟩] [0, 1, 12, 13])
    (.blk 0 (.loop (.seq (.reg [
         ⟨some 14, .ci .lss (.v 13) (.v 12), none⟩] [0, 1, 12, 13, 14])
       (.seq (.cnd (.v 14) (.skip)
         (.exit 0))
        (.seq (.blk 1 (.seq (.reg [
             ⟨some 15, .cp (.v 13), none⟩,
             ⟨some 5, .cp (.v 15), none⟩] [0, 1, 5, 12, 13])
           (.seq (.reg [
              ⟨some 16, .cp (.v 0), none⟩,
              ⟨some 17, .cp (.v 5), none⟩,
              ⟨some 18, .ia 1 (.v 16) (.v 17), none⟩,
              ⟨some 19, .ld false 1 (.v 18), none⟩,
              ⟨some 20, .cp (.v 1), none⟩,
              ⟨some 21, .cp (.v 5), none⟩,
              ⟨some 22, .ia 1 (.v 20) (.v 21), none⟩,
              ⟨some 23, .ld false 1 (.v 22), none⟩,
              ⟨some 24, .sc .neq (.v 19) (.v 23), none⟩] [0, 1, 12, 13, 24])
            (.cnd (.v 24) (.seq (.reg [
                ⟨some 4, .cp (.k (.bool false)), none⟩] [4])
              (.ret))
             (.skip)))))
         (.reg [
           ⟨some 25, .ari .add .i64 (.v 13) (.k (.int .i64 1)), none⟩,
           ⟨some 13, .cp (.v 25), none⟩] [0, 1, 12, 13])))))))
   (.seq (.reg [
      ⟨some 4, .cp (.k (.bool true)), none⟩] [4])
    (.ret))))
def rs15 : List RV := [.t 4]
theorem chk15 : chkFn Tryz.prog Tryz.f15 2 pc15 rs15 = true := by kernel_rfl
theorem rule15 {L : World → Prop} (hL : ∀ w w', L w → Below w.heap.size w w' → L w') {ds : List D} {r : D} (hr0 : aliasOf r = none) (hlen : ds.length = 2) (hp : ds.all (fun d => (aliasOf d).isNone) = true)
    (h : wC (Con Tryz.prog L) pc15 (retQ rs15 r) (initE 0 ds)) : Con Tryz.prog L 15 ds r :=
  con_chk hL Tryz.func15 chk15 hr0 hlen hp (wC_sound h)

/-- klippe/klipperef02.Of -/
def pc16 : PC := .seq (.reg [
   ⟨some 4, .cp (.k (.str [])), none⟩] [0, 1])
 (.seq (.reg [
    ⟨some 5, .cp (.v 0), none⟩,
    ⟨some 6, .call 55 [.v 5], none⟩,
    ⟨some 7, .cp (.v 1), none⟩,
    ⟨some 8, .call 55 [.v 7], none⟩,
    ⟨some 9, .call 54 [.v 6, .v 8], none⟩,
    ⟨some 4, .cp (.v 9), none⟩] [4])
  (.ret))
def rs16 : List RV := [.t 4]
theorem chk16 : chkFn Tryz.prog Tryz.f16 2 pc16 rs16 = true := by kernel_rfl
theorem rule16 {L : World → Prop} (hL : ∀ w w', L w → Below w.heap.size w w' → L w') {ds : List D} {r : D} (hr0 : aliasOf r = none) (hlen : ds.length = 2) (hp : ds.all (fun d => (aliasOf d).isNone) = true)
    (h : wC (Con Tryz.prog L) pc16 (retQ rs16 r) (initE 0 ds)) : Con Tryz.prog L 16 ds r :=
  con_chk hL Tryz.func16 chk16 hr0 hlen hp (wC_sound h)

/-- klippe/column.Join -/
def pc17 : PC := .seq (.reg [
   ⟨some 4, .nil 39, none⟩,
   ⟨some 5, .cp (.k (.int .i64 0)), none⟩] [0, 1])
 (.seq (.seq (.reg [
     ⟨some 13, .cp (.v 0), none⟩,
     ⟨some 14, .cp (.v 1), none⟩,
     ⟨some 15, .bldS 28 [.sl 0 []] 2 [(0, 1, .v 13), (1, 1, .v 14)], none⟩,
     ⟨some 16, .len (.v 15), none⟩,
     ⟨some 17, .cp (.k (.int .i64 0)), none⟩] [0, 1, 15, 16, 17])
   (.blk 0 (.loop (.seq (.reg [
        ⟨some 18, .ci .lss (.v 17) (.v 16), none⟩] [0, 1, 15, 16, 17, 18])
      (.seq (.cnd (.v 18) (.skip)
        (.exit 0))
       (.seq (.blk 1 (.seq (.reg [
            ⟨some 19, .ia 1 (.v 15) (.v 17), none⟩,
            ⟨some 20, .ld false 1 (.o 19 15), none⟩,
            ⟨some 7, .cp (.v 20), none⟩] [0, 1, 7, 15, 16, 17])
          (.seq (.reg [
             ⟨some 21, .cp (.v 7), none⟩,
             ⟨some 22, .call 45 [.v 21], none⟩,
             ⟨some 8, .cp (.v 22), none⟩] [0, 1, 8, 15, 16, 17])
           (.seq (.reg [
              ⟨some 23, .cp (.v 8), none⟩,
              ⟨some 24, .ci .neq (.v 23) (.k (.int .i64 0)), none⟩] [0, 1, 8, 15, 16, 17, 24])
            (.cnd (.v 24) (.seq (.reg [
                ⟨some 25, .cp (.v 8), none⟩,
                ⟨some 4, .nil 39, none⟩,
                ⟨some 5, .cp (.v 25), none⟩] [4, 5])
              (.ret))
             (.skip))))))
        (.reg [
          ⟨some 26, .ari .add .i64 (.v 17) (.k (.int .i64 1)), none⟩,
          ⟨some 17, .cp (.v 26), none⟩] [0, 1, 15, 16, 17])))))))
  (.seq (.seq (.reg [
      ⟨some 27, .cp (.v 0), none⟩,
      ⟨some 28, .len (.v 27), none⟩,
      ⟨some 29, .cp (.k (.int .i64 0)), none⟩] [0, 1, 27, 28, 29])
    (.blk 2 (.loop (.seq (.reg [
         ⟨some 30, .ci .lss (.v 29) (.v 28), none⟩] [0, 1, 27, 28, 29, 30])
       (.seq (.cnd (.v 30) (.skip)
         (.exit 2))
        (.seq (.blk 3 (.seq (.reg [
             ⟨some 31, .ia 3 (.v 27) (.v 29), none⟩,
             ⟨some 32, .ld true 3 (.v 31), none⟩,
             ⟨some 10, .alloc [.str [], .str [], .str []], none⟩,
             ⟨none, .st 3 (.v 10) (.v 32), none⟩] [0, 1, 10, 27, 28, 29])
           (.seq (.reg [
              ⟨some 33, .cp (.v 1), none⟩,
              ⟨some 34, .fa 0 (.v 10), none⟩,
              ⟨some 35, .ld false 1 (.o 34 10), none⟩,
              ⟨some 36, .call 56 [.v 33, .v 35], none⟩,
              ⟨some 11, .cp (.v 36), none⟩] [0, 1, 10, 11, 27, 28, 29])
            (.seq (.reg [
               ⟨some 37, .cp (.v 11), none⟩,
               ⟨some 38, .ci .geq (.v 37) (.k (.int .i64 0)), none⟩,
               ⟨some 39, .cp (.v 38), none⟩,
               ⟨some 40, .cp (.v 1), (some (39, true))⟩,
               ⟨some 41, .cp (.v 11), (some (39, true))⟩,
               ⟨some 42, .ia 3 (.v 40) (.v 41), (some (39, true))⟩,
               ⟨some 43, .ld true 3 (.v 42), (some (39, true))⟩,
               ⟨some 44, .ld true 3 (.v 10), (some (39, true))⟩,
               ⟨some 45, .eq true [2, 2, 2] (.v 43) (.v 44), (some (39, true))⟩,
               ⟨some 46, .pick (.v 39) (.v 45) (.k (.bool false)), none⟩] [0, 1, 27, 28, 29, 46])
             (.cnd (.v 46) (.seq (.reg [
                 ⟨some 4, .nil 39, none⟩,
                 ⟨some 5, .cp (.k (.int .i64 14)), none⟩] [4, 5])
               (.ret))
              (.skip))))))
         (.reg [
           ⟨some 47, .ari .add .i64 (.v 29) (.k (.int .i64 1)), none⟩,
           ⟨some 29, .cp (.v 47), none⟩] [0, 1, 27, 28, 29])))))))
   (.seq (.reg [
      ⟨some 12, .nil 39, none⟩] [0, 1, 12])
    (.seq (.blk 4 (.loop (.seq (.seq (.reg [
           ⟨some 48, .cp (.v 0), none⟩,
           ⟨some 49, .len (.v 48), none⟩,
           ⟨some 50, .ci .gtr (.v 49) (.k (.int .i64 0)), none⟩,
           ⟨some 51, .cp (.v 50), none⟩,
           ⟨some 52, .cp (.v 1), (some (51, false))⟩,
           ⟨some 53, .len (.v 52), (some (51, false))⟩,
           ⟨some 54, .ci .gtr (.v 53) (.k (.int .i64 0)), (some (51, false))⟩,
           ⟨some 55, .pick (.v 51) (.k (.bool true)) (.v 54), none⟩] [0, 1, 12, 55])
         (.cnd (.v 55) (.skip)
          (.exit 4)))
        (.blk 5 (.blk 6 (.seq (.reg [
             ⟨some 57, .cp (.v 0), none⟩,
             ⟨some 58, .len (.v 57), none⟩,
             ⟨some 59, .ci .gtr (.v 58) (.k (.int .i64 0)), none⟩,
             ⟨some 60, .cp (.v 59), none⟩,
             ⟨some 61, .cp (.v 1), (some (60, true))⟩,
             ⟨some 62, .cp (.v 0), (some (60, true))⟩,
             ⟨some 63, .ia 3 (.v 62) (.k (.int .i64 0)), (some (60, true))⟩,
             ⟨some 64, .fa 0 (.v 63), (some (60, true))⟩,
             ⟨some 65, .ld false 1 (.o 64 63), (some (60, true))⟩,
             ⟨some 66, .call 56 [.v 61, .v 65], (some (60, true))⟩,
             ⟨some 67, .ci .leq (.v 66) (.k (.int .i64 0)), (some (60, true))⟩,
             ⟨some 68, .pick (.v 60) (.v 67) (.k (.bool false)), none⟩,
             ⟨some 56, .cp (.v 68), none⟩] [0, 1, 12, 56])
           (.cnd (.v 56) (.seq (.seq (.reg [
                ⟨some 69, .cp (.v 1), none⟩,
                ⟨some 70, .cp (.v 0), none⟩,
                ⟨some 71, .ia 3 (.v 70) (.k (.int .i64 0)), none⟩,
                ⟨some 72, .fa 0 (.v 71), none⟩,
                ⟨some 73, .ld false 1 (.o 72 71), none⟩,
                ⟨some 74, .call 56 [.v 69, .v 73], none⟩,
                ⟨some 75, .ci .eql (.v 74) (.k (.int .i64 0)), none⟩] [0, 1, 12, 75])
              (.cnd (.v 75) (.reg [
                 ⟨some 76, .cp (.v 1), none⟩,
                 ⟨some 77, .slc 3 (.v 76) (some (.k (.int .i64 1))) none, none⟩,
                 ⟨some 1, .cp (.v 77), none⟩] [0, 1, 12])
               (.skip)))
             (.reg [
               ⟨some 78, .tk 12, none⟩,
               ⟨some 79, .cp (.v 0), none⟩,
               ⟨some 80, .ia 3 (.v 79) (.k (.int .i64 0)), none⟩,
               ⟨some 81, .ld true 3 (.v 80), none⟩,
               ⟨some 82, .bldS 39 [.str [], .str [], .str []] 1 [(0, 3, .v 81)], none⟩,
               ⟨some 83, .app 39 3 48 (.v 78) (.v 82), none⟩,
               ⟨some 84, .cp (.v 0), none⟩,
               ⟨some 85, .slc 3 (.v 84) (some (.k (.int .i64 1))) none, none⟩,
               ⟨some 12, .tk 83, none⟩,
               ⟨some 0, .cp (.v 85), none⟩] [0, 1, 12]))
            (.seq (.reg [
               ⟨some 87, .cp (.v 1), none⟩,
               ⟨some 88, .len (.v 87), none⟩,
               ⟨some 89, .ci .gtr (.v 88) (.k (.int .i64 0)), none⟩,
               ⟨some 90, .cp (.v 89), none⟩,
               ⟨some 91, .cp (.v 0), (some (90, true))⟩,
               ⟨some 92, .cp (.v 1), (some (90, true))⟩,
               ⟨some 93, .ia 3 (.v 92) (.k (.int .i64 0)), (some (90, true))⟩,
               ⟨some 94, .fa 0 (.v 93), (some (90, true))⟩,
               ⟨some 95, .ld false 1 (.o 94 93), (some (90, true))⟩,
               ⟨some 96, .call 56 [.v 91, .v 95], (some (90, true))⟩,
               ⟨some 97, .ci .lss (.v 96) (.k (.int .i64 0)), (some (90, true))⟩,
               ⟨some 98, .pick (.v 90) (.v 97) (.k (.bool false)), none⟩,
               ⟨some 86, .cp (.v 98), none⟩] [0, 1, 12, 86])
             (.cnd (.v 86) (.reg [
                ⟨some 99, .tk 12, none⟩,
                ⟨some 100, .cp (.v 1), none⟩,
                ⟨some 101, .ia 3 (.v 100) (.k (.int .i64 0)), none⟩,
                ⟨some 102, .ld true 3 (.v 101), none⟩,
                ⟨some 103, .bldS 39 [.str [], .str [], .str []] 1 [(0, 3, .v 102)], none⟩,
                ⟨some 104, .app 39 3 48 (.v 99) (.v 103), none⟩,
                ⟨some 105, .cp (.v 1), none⟩,
                ⟨some 106, .slc 3 (.v 105) (some (.k (.int .i64 1))) none, none⟩,
                ⟨some 12, .tk 104, none⟩,
                ⟨some 1, .cp (.v 106), none⟩] [0, 1, 12])
              (.seq (.reg [
                 ⟨some 4, .nil 39, none⟩,
                 ⟨some 5, .cp (.k (.int .i64 27)), none⟩] [4, 5])
               (.ret)))))))))))
     (.seq (.seq (.reg [
         ⟨some 107, .mv (.v 12), none⟩,
         ⟨some 108, .len (.o 107 12), none⟩,
         ⟨some 109, .ci .gtr (.v 108) (.k (.int .i64 60)), none⟩] [12, 109])
       (.cnd (.v 109) (.seq (.reg [
           ⟨some 4, .nil 39, none⟩,
           ⟨some 5, .cp (.k (.int .i64 4)), none⟩] [4, 5])
         (.ret))
        (.skip)))
      (.seq (.reg [
         ⟨some 110, .tk 12, none⟩,
         ⟨some 4, .tk 110, none⟩,
         ⟨some 5, .cp (.k (.int .i64 0)), none⟩] [4, 5])
       (.ret)))))))
def rs17 : List RV := [.t 4, .t 5]
theorem chk17 : chkFn Tryz.prog Tryz.f17 2 pc17 rs17 = true := by kernel_rfl
theorem rule17 {L : World → Prop} (hL : ∀ w w', L w → Below w.heap.size w w' → L w') {ds : List D} {r : D} (hr0 : aliasOf r = none) (hlen : ds.length = 2) (hp : ds.all (fun d => (aliasOf d).isNone) = true)
    (h : wC (Con Tryz.prog L) pc17 (retQ rs17 r) (initE 0 ds)) : Con Tryz.prog L 17 ds r :=
  con_chk hL Tryz.func17 chk17 hr0 hlen hp (wC_sound h)

/-- slices.Equal[[]klippe/api.Layer,klippe/api.Layer] -/
def pc18 : PC := .seq (.reg [
   ⟨some 4, .cp (.k (.bool false)), none⟩] [0, 1])
 (.seq (.seq (.reg [
     ⟨some 6, .cp (.v 0), none⟩,
     ⟨some 7, .len (.v 6), none⟩,
     ⟨some 8, .cp (.v 1), none⟩,
     ⟨some 9, .len (.v 8), none⟩,
     ⟨some 10, .ci .neq (.v 7) (.v 9), none⟩] [0, 1, 10])
   (.cnd (.v 10) (.seq (.reg [
       ⟨some 4, .cp (.k (.bool false)), none⟩] [4])
     (.ret))
    (.skip)))
  (.seq (.seq (.reg [
      ⟨some 11, .cp (.v 0), none⟩,
      ⟨some 12, .len (.v 11), none⟩,
      ⟨some 13, .cp (.k (.int .i64 0)), none⟩] [0, 1, 12, 13])
    (.blk 0 (.loop (.seq (.reg [
         ⟨some 14, .ci .lss (.v 13) (.v 12), none⟩] [0, 1, 12, 13, 14])
       (.seq (.cnd (.v 14) (.skip)
         (.exit 0))
        (.seq (.blk 1 (.seq (.reg [
             ⟨some 15, .cp (.v 13), none⟩,
             ⟨some 5, .cp (.v 15), none⟩] [0, 1, 5, 12, 13])
           (.seq (.reg [
              ⟨some 16, .cp (.v 0), none⟩,
              ⟨some 17, .cp (.v 5), none⟩,
              ⟨some 18, .ia 3 (.v 16) (.v 17), none⟩,
              ⟨some 19, .ld true 3 (.v 18), none⟩,
              ⟨some 20, .cp (.v 1), none⟩,
              ⟨some 21, .cp (.v 5), none⟩,
              ⟨some 22, .ia 3 (.v 20) (.v 21), none⟩,
              ⟨some 23, .ld true 3 (.v 22), none⟩,
              ⟨some 24, .eq true [2, 2, 2] (.v 19) (.v 23), none⟩] [0, 1, 12, 13, 24])
            (.cnd (.v 24) (.seq (.reg [
                ⟨some 4, .cp (.k (.bool false)), none⟩] [4])
              (.ret))
             (.skip)))))
         (.reg [
           ⟨some 25, .ari .add .i64 (.v 13) (.k (.int .i64 1)), none⟩,
           ⟨some 13, .cp (.v 25), none⟩] [0, 1, 12, 13])))))))
   (.seq (.reg [
      ⟨some 4, .cp (.k (.bool true)), none⟩] [4])
    (.ret))))
def rs18 : List RV := [.t 4]
theorem chk18 : chkFn Tryz.prog Tryz.f18 2 pc18 rs18 = true := by kernel_rfl
theorem rule18 {L : World → Prop} (hL : ∀ w w', L w → Below w.heap.size w w' → L w') {ds : List D} {r : D} (hr0 : aliasOf r = none) (hlen : ds.length = 2) (hp : ds.all (fun d => (aliasOf d).isNone) = true)
    (h : wC (Con Tryz.prog L) pc18 (retQ rs18 r) (initE 0 ds)) : Con Tryz.prog L 18 ds r :=
  con_chk hL Tryz.func18 chk18 hr0 hlen hp (wC_sound h)

/-- klippe/klippelaw22.index -/
def pc20 : PC := .seq (.reg [
   ⟨some 3, .bx 1 (.v 1), none⟩,
   ⟨some 4, .cp (.k (.int .i64 0)), none⟩] [0, 3])
 (.seq (.reg [
    ⟨some 5, .cp (.v 0), none⟩,
    ⟨some 6, .mkf 59 [.v 3], none⟩,
    ⟨some 7, .call 58 [.v 5, .v 6], none⟩,
    ⟨some 4, .cp (.v 7), none⟩] [4])
  (.ret))
def rs20 : List RV := [.t 4]
theorem chk20 : chkFn Tryz.prog Tryz.f20 2 pc20 rs20 = true := by kernel_rfl
theorem rule20 {L : World → Prop} (hL : ∀ w w', L w → Below w.heap.size w w' → L w') {ds : List D} {r : D} (hr0 : aliasOf r = none) (hlen : ds.length = 2) (hp : ds.all (fun d => (aliasOf d).isNone) = true)
    (h : wC (Con Tryz.prog L) pc20 (retQ rs20 r) (initE 0 ds)) : Con Tryz.prog L 20 ds r :=
  con_chk hL Tryz.func20 chk20 hr0 hlen hp (wC_sound h)

/-- klippe/column.Index -/
def pc21 : PC := .seq (.reg [
   ⟨some 4, .cp (.k (.int .i64 0)), none⟩,
   ⟨some 5, .cp (.k (.bool false)), none⟩,
   ⟨some 6, .cp (.k (.int .i64 0)), none⟩] [0, 1])
 (.seq (.seq (.reg [
     ⟨some 9, .cp (.v 0), none⟩,
     ⟨some 10, .call 45 [.v 9], none⟩,
     ⟨some 7, .cp (.v 10), none⟩] [0, 1, 7])
   (.seq (.reg [
      ⟨some 11, .cp (.v 7), none⟩,
      ⟨some 12, .ci .neq (.v 11) (.k (.int .i64 0)), none⟩] [0, 1, 7, 12])
    (.cnd (.v 12) (.seq (.reg [
        ⟨some 13, .cp (.v 7), none⟩,
        ⟨some 4, .cp (.k (.int .i64 0)), none⟩,
        ⟨some 5, .cp (.k (.bool false)), none⟩,
        ⟨some 6, .cp (.v 13), none⟩] [4, 5, 6])
      (.ret))
     (.skip))))
  (.seq (.seq (.reg [
      ⟨some 14, .cp (.v 0), none⟩,
      ⟨some 15, .cp (.v 1), none⟩,
      ⟨some 16, .call 56 [.v 14, .v 15], none⟩,
      ⟨some 8, .cp (.v 16), none⟩] [8])
    (.seq (.reg [
       ⟨some 17, .cp (.v 8), none⟩,
       ⟨some 18, .ci .geq (.v 17) (.k (.int .i64 0)), none⟩] [8, 18])
     (.cnd (.v 18) (.seq (.reg [
         ⟨some 19, .cp (.v 8), none⟩,
         ⟨some 4, .cp (.v 19), none⟩,
         ⟨some 5, .cp (.k (.bool true)), none⟩,
         ⟨some 6, .cp (.k (.int .i64 0)), none⟩] [4, 5, 6])
       (.ret))
      (.skip))))
   (.seq (.reg [
      ⟨some 4, .cp (.k (.int .i64 0)), none⟩,
      ⟨some 5, .cp (.k (.bool false)), none⟩,
      ⟨some 6, .cp (.k (.int .i64 0)), none⟩] [4, 5, 6])
    (.ret))))
def rs21 : List RV := [.t 4, .t 5, .t 6]
theorem chk21 : chkFn Tryz.prog Tryz.f21 2 pc21 rs21 = true := by kernel_rfl
theorem rule21 {L : World → Prop} (hL : ∀ w w', L w → Below w.heap.size w w' → L w') {ds : List D} {r : D} (hr0 : aliasOf r = none) (hlen : ds.length = 2) (hp : ds.all (fun d => (aliasOf d).isNone) = true)
    (h : wC (Con Tryz.prog L) pc21 (retQ rs21 r) (initE 0 ds)) : Con Tryz.prog L 21 ds r :=
  con_chk hL Tryz.func21 chk21 hr0 hlen hp (wC_sound h)

/-- klippe/column.Thickness -/
def pc22 : PC := .seq (.reg [
   ⟨some 6, .alloc [.str [], .str []], none⟩,
   ⟨some 7, .cp (.k (.int .i64 0)), none⟩] [0, 1, 2, 6])
 (.seq (.reg [
    ⟨some 15, .cp (.v 0), none⟩,
    ⟨some 16, .cp (.v 1), none⟩,
    ⟨some 17, .cp (.v 2), none⟩,
    ⟨some 18, .call 60 [.v 15, .v 16, .v 17], none⟩,
    ⟨some 14, .cp (.v 18), none⟩,
    ⟨some 19, .ext 14 0, none⟩,
    ⟨some 20, .ext 14 1, none⟩,
    ⟨some 21, .ext 14 2, none⟩,
    ⟨some 8, .cp (.v 19), none⟩,
    ⟨some 9, .cp (.v 20), none⟩,
    ⟨some 10, .cp (.v 21), none⟩] [0, 6, 8, 9, 10])
  (.seq (.seq (.reg [
      ⟨some 22, .cp (.v 10), none⟩,
      ⟨some 23, .ci .neq (.v 22) (.k (.int .i64 0)), none⟩] [0, 6, 8, 9, 10, 23])
    (.cnd (.v 23) (.seq (.reg [
        ⟨some 24, .bld [.str [], .str []] [], none⟩,
        ⟨some 25, .cp (.v 10), none⟩,
        ⟨none, .st 2 (.v 6) (.v 24), none⟩,
        ⟨some 7, .cp (.v 25), none⟩] [6, 7])
      (.ret))
     (.skip)))
   (.seq (.seq (.reg [
       ⟨some 26, .cp (.v 8), none⟩,
       ⟨some 27, .cp (.v 9), none⟩,
       ⟨some 28, .ci .geq (.v 26) (.v 27), none⟩] [0, 6, 8, 9, 28])
     (.cnd (.v 28) (.seq (.reg [
         ⟨some 29, .bld [.str [], .str []] [], none⟩,
         ⟨none, .st 2 (.v 6) (.v 29), none⟩,
         ⟨some 7, .cp (.k (.int .i64 6)), none⟩] [6, 7])
       (.ret))
      (.skip)))
    (.seq (.reg [
       ⟨some 30, .bld [.str [], .str []] [(0, 1, .k (.str [48])), (1, 1, .k (.str [48]))], none⟩,
       ⟨some 11, .alloc [.str [], .str []], none⟩,
       ⟨none, .st 2 (.v 11) (.v 30), none⟩] [0, 6, 8, 9, 11])
     (.seq (.seq (.reg [
         ⟨some 31, .cp (.v 0), none⟩,
         ⟨some 32, .cp (.v 8), none⟩,
         ⟨some 33, .ari .add .i64 (.v 32) (.k (.int .i64 1)), none⟩,
         ⟨some 34, .cp (.v 9), none⟩,
         ⟨some 35, .slc 3 (.v 31) (some (.v 33)) (some (.v 34)), none⟩,
         ⟨some 36, .len (.v 35), none⟩,
         ⟨some 37, .cp (.k (.int .i64 0)), none⟩] [6, 11, 35, 36, 37])
       (.blk 0 (.loop (.seq (.reg [
            ⟨some 38, .ci .lss (.v 37) (.v 36), none⟩] [6, 11, 35, 36, 37, 38])
          (.seq (.cnd (.v 38) (.skip)
            (.exit 0))
           (.seq (.blk 1 (.seq (.reg [
                ⟨some 39, .ia 3 (.v 35) (.v 37), none⟩,
                ⟨some 40, .ld true 3 (.v 39), none⟩,
                ⟨some 13, .alloc [.str [], .str [], .str []], none⟩,
                ⟨none, .st 3 (.v 13) (.v 40), none⟩] [6, 11, 13, 35, 36, 37])
              (.seq (.reg [
                 ⟨some 41, .fa 0 (.v 11), none⟩,
                 ⟨some 42, .ld false 1 (.o 41 11), none⟩,
                 ⟨some 43, .fa 1 (.v 13), none⟩,
                 ⟨some 44, .ld false 1 (.o 43 13), none⟩,
                 ⟨some 45, .call 61 [.v 42, .v 44], none⟩,
                 ⟨some 46, .fa 0 (.v 11), none⟩,
                 ⟨none, .st 1 (.o 46 11) (.v 45), none⟩] [6, 11, 13, 35, 36, 37])
               (.seq (.seq (.reg [
                   ⟨some 47, .fa 1 (.v 11), none⟩,
                   ⟨some 48, .ld false 1 (.o 47 11), none⟩,
                   ⟨some 49, .sc .eql (.v 48) (.k (.str [])), none⟩,
                   ⟨some 50, .cp (.v 49), none⟩,
                   ⟨some 51, .fa 2 (.v 13), (some (50, false))⟩,
                   ⟨some 52, .ld false 1 (.o 51 13), (some (50, false))⟩,
                   ⟨some 53, .sc .eql (.v 52) (.k (.str [])), (some (50, false))⟩,
                   ⟨some 54, .pick (.v 50) (.k (.bool true)) (.v 53), none⟩] [6, 11, 13, 35, 36, 37, 54])
                 (.cnd (.v 54) (.seq (.reg [
                     ⟨some 55, .fa 1 (.v 11), none⟩,
                     ⟨none, .st 1 (.o 55 11) (.k (.str [])), none⟩] [6, 11, 35, 36, 37])
                   (.exit 1))
                  (.skip)))
                (.reg [
                  ⟨some 56, .fa 1 (.v 11), none⟩,
                  ⟨some 57, .ld false 1 (.o 56 11), none⟩,
                  ⟨some 58, .fa 2 (.v 13), none⟩,
                  ⟨some 59, .ld false 1 (.o 58 13), none⟩,
                  ⟨some 60, .call 61 [.v 57, .v 59], none⟩,
                  ⟨some 61, .fa 1 (.v 11), none⟩,
                  ⟨none, .st 1 (.o 61 11) (.v 60), none⟩] [6, 11, 35, 36, 37])))))
            (.reg [
              ⟨some 62, .ari .add .i64 (.v 37) (.k (.int .i64 1)), none⟩,
              ⟨some 37, .cp (.v 62), none⟩] [6, 11, 35, 36, 37])))))))
      (.seq (.seq (.reg [
          ⟨some 63, .fa 0 (.v 11), none⟩,
          ⟨some 64, .ld false 1 (.o 63 11), none⟩,
          ⟨some 65, .call 62 [.v 64], none⟩,
          ⟨some 66, .ci .neq (.v 65) (.k (.int .i64 0)), none⟩,
          ⟨some 67, .cp (.v 66), none⟩,
          ⟨some 68, .fa 1 (.v 11), (some (67, false))⟩,
          ⟨some 69, .ld false 1 (.o 68 11), (some (67, false))⟩,
          ⟨some 70, .sc .neq (.v 69) (.k (.str [])), (some (67, false))⟩,
          ⟨some 71, .cp (.v 70), (some (67, false))⟩,
          ⟨some 72, .fa 1 (.v 11), (some (71, true))⟩,
          ⟨some 73, .ld false 1 (.o 72 11), (some (71, true))⟩,
          ⟨some 74, .call 62 [.v 73], (some (71, true))⟩,
          ⟨some 75, .ci .neq (.v 74) (.k (.int .i64 0)), (some (71, true))⟩,
          ⟨some 76, .pick (.v 71) (.v 75) (.k (.bool false)), (some (67, false))⟩,
          ⟨some 77, .pick (.v 67) (.k (.bool true)) (.v 76), none⟩] [6, 11, 77])
        (.cnd (.v 77) (.seq (.reg [
            ⟨some 78, .bld [.str [], .str []] [], none⟩,
            ⟨none, .st 2 (.v 6) (.v 78), none⟩,
            ⟨some 7, .cp (.k (.int .i64 4)), none⟩] [6, 7])
          (.ret))
         (.skip)))
       (.seq (.reg [
          ⟨some 79, .ld true 2 (.v 11), none⟩,
          ⟨none, .st 2 (.v 6) (.v 79), none⟩,
          ⟨some 7, .cp (.k (.int .i64 0)), none⟩] [6, 7])
        (.ret))))))))
def rs22 : List RV := [.c 6 true 2, .t 7]
theorem chk22 : chkFn Tryz.prog Tryz.f22 3 pc22 rs22 = true := by kernel_rfl
theorem rule22 {L : World → Prop} (hL : ∀ w w', L w → Below w.heap.size w w' → L w') {ds : List D} {r : D} (hr0 : aliasOf r = none) (hlen : ds.length = 3) (hp : ds.all (fun d => (aliasOf d).isNone) = true)
    (h : wC (Con Tryz.prog L) pc22 (retQ rs22 r) (initE 0 ds)) : Con Tryz.prog L 22 ds r :=
  con_chk hL Tryz.func22 chk22 hr0 hlen hp (wC_sound h)

/-- klippe/column.Younger -/
def pc23 : PC := .seq (.reg [
   ⟨some 6, .cp (.k (.bool false)), none⟩,
   ⟨some 7, .cp (.k (.int .i64 0)), none⟩] [0, 1, 2])
 (.seq (.reg [
    ⟨some 12, .cp (.v 0), none⟩,
    ⟨some 13, .cp (.v 1), none⟩,
    ⟨some 14, .cp (.v 2), none⟩,
    ⟨some 15, .call 60 [.v 12, .v 13, .v 14], none⟩,
    ⟨some 11, .cp (.v 15), none⟩,
    ⟨some 16, .ext 11 0, none⟩,
    ⟨some 17, .ext 11 1, none⟩,
    ⟨some 18, .ext 11 2, none⟩,
    ⟨some 8, .cp (.v 16), none⟩,
    ⟨some 9, .cp (.v 17), none⟩,
    ⟨some 10, .cp (.v 18), none⟩] [8, 9, 10])
  (.seq (.reg [
     ⟨some 19, .cp (.v 10), none⟩,
     ⟨some 20, .ci .eql (.v 19) (.k (.int .i64 0)), none⟩,
     ⟨some 21, .cp (.v 20), none⟩,
     ⟨some 22, .cp (.v 8), (some (21, true))⟩,
     ⟨some 23, .cp (.v 9), (some (21, true))⟩,
     ⟨some 24, .ci .gtr (.v 22) (.v 23), (some (21, true))⟩,
     ⟨some 25, .pick (.v 21) (.v 24) (.k (.bool false)), none⟩,
     ⟨some 26, .cp (.v 10), none⟩,
     ⟨some 6, .cp (.v 25), none⟩,
     ⟨some 7, .cp (.v 26), none⟩] [6, 7])
   (.ret)))
def rs23 : List RV := [.t 6, .t 7]
theorem chk23 : chkFn Tryz.prog Tryz.f23 3 pc23 rs23 = true := by kernel_rfl
theorem rule23 {L : World → Prop} (hL : ∀ w w', L w → Below w.heap.size w w' → L w') {ds : List D} {r : D} (hr0 : aliasOf r = none) (hlen : ds.length = 3) (hp : ds.all (fun d => (aliasOf d).isNone) = true)
    (h : wC (Con Tryz.prog L) pc23 (retQ rs23 r) (initE 0 ds)) : Con Tryz.prog L 23 ds r :=
  con_chk hL Tryz.func23 chk23 hr0 hlen hp (wC_sound h)

/-- klippe/column.Surfaces -/
def pc24 : PC := .seq (.reg [
   ⟨some 6, .nil 3, none⟩,
   ⟨some 7, .cp (.k (.int .i64 0)), none⟩] [0, 1, 2])
 (.seq (.reg [
    ⟨some 13, .cp (.v 0), none⟩,
    ⟨some 14, .cp (.v 1), none⟩,
    ⟨some 15, .cp (.v 2), none⟩,
    ⟨some 16, .call 60 [.v 13, .v 14, .v 15], none⟩,
    ⟨some 12, .cp (.v 16), none⟩,
    ⟨some 17, .ext 12 0, none⟩,
    ⟨some 18, .ext 12 1, none⟩,
    ⟨some 19, .ext 12 2, none⟩,
    ⟨some 8, .cp (.v 17), none⟩,
    ⟨some 9, .cp (.v 18), none⟩,
    ⟨some 10, .cp (.v 19), none⟩] [8, 9, 10])
  (.seq (.seq (.reg [
      ⟨some 20, .cp (.v 10), none⟩,
      ⟨some 21, .ci .neq (.v 20) (.k (.int .i64 0)), none⟩] [8, 9, 10, 21])
    (.cnd (.v 21) (.seq (.reg [
        ⟨some 22, .cp (.v 10), none⟩,
        ⟨some 6, .nil 3, none⟩,
        ⟨some 7, .cp (.v 22), none⟩] [6, 7])
      (.ret))
     (.skip)))
   (.seq (.seq (.reg [
       ⟨some 23, .cp (.v 8), none⟩,
       ⟨some 24, .cp (.v 9), none⟩,
       ⟨some 25, .ci .geq (.v 23) (.v 24), none⟩] [8, 9, 25])
     (.cnd (.v 25) (.seq (.reg [
         ⟨some 6, .nil 3, none⟩,
         ⟨some 7, .cp (.k (.int .i64 6)), none⟩] [6, 7])
       (.ret))
      (.skip)))
    (.seq (.reg [
       ⟨some 11, .nil 3, none⟩] [8, 9, 11])
     (.seq (.blk 0 (.loop (.seq (.seq (.reg [
            ⟨some 26, .cp (.v 8), none⟩,
            ⟨some 27, .cp (.v 9), none⟩,
            ⟨some 28, .ci .lss (.v 26) (.v 27), none⟩] [8, 9, 11, 28])
          (.cnd (.v 28) (.skip)
           (.exit 0)))
         (.seq (.blk 1 (.reg [
             ⟨some 31, .tk 11, none⟩,
             ⟨some 32, .cp (.v 8), none⟩,
             ⟨some 33, .bldS 3 [.int .i64 0] 1 [(0, 1, .v 32)], none⟩,
             ⟨some 34, .app 3 1 8 (.v 31) (.v 33), none⟩,
             ⟨some 11, .tk 34, none⟩] [8, 9, 11]))
          (.reg [
            ⟨some 29, .cp (.v 8), none⟩,
            ⟨some 30, .ari .add .i64 (.v 29) (.k (.int .i64 1)), none⟩,
            ⟨some 8, .cp (.v 30), none⟩] [8, 9, 11])))))
      (.seq (.reg [
         ⟨some 35, .tk 11, none⟩,
         ⟨some 6, .tk 35, none⟩,
         ⟨some 7, .cp (.k (.int .i64 0)), none⟩] [6, 7])
       (.ret)))))))
def rs24 : List RV := [.t 6, .t 7]
theorem chk24 : chkFn Tryz.prog Tryz.f24 3 pc24 rs24 = true := by kernel_rfl
theorem rule24 {L : World → Prop} (hL : ∀ w w', L w → Below w.heap.size w w' → L w') {ds : List D} {r : D} (hr0 : aliasOf r = none) (hlen : ds.length = 3) (hp : ds.all (fun d => (aliasOf d).isNone) = true)
    (h : wC (Con Tryz.prog L) pc24 (retQ rs24 r) (initE 0 ds)) : Con Tryz.prog L 24 ds r :=
  con_chk hL Tryz.func24 chk24 hr0 hlen hp (wC_sound h)

/-- klippe/klipperef02.Add -/
def pc25 : PC := .seq (.reg [
   ⟨some 4, .cp (.k (.str [])), none⟩] [0, 1])
 (.seq (.seq (.reg [
     ⟨some 16, .cp (.v 0), none⟩,
     ⟨some 17, .call 63 [.v 16], none⟩,
     ⟨some 15, .cp (.v 17), none⟩,
     ⟨some 18, .ext 15 0, none⟩,
     ⟨some 19, .ext 15 1, none⟩,
     ⟨some 20, .ext 15 2, none⟩,
     ⟨some 5, .cp (.v 18), none⟩,
     ⟨some 6, .cp (.v 19), none⟩,
     ⟨some 7, .cp (.v 20), none⟩] [0, 1, 5, 6, 7])
   (.seq (.reg [
      ⟨some 21, .cp (.v 7), none⟩] [0, 1, 5, 6, 21])
    (.cnd (.v 21) (.seq (.reg [
        ⟨some 23, .cp (.v 1), none⟩,
        ⟨some 24, .call 63 [.v 23], none⟩,
        ⟨some 22, .cp (.v 24), none⟩,
        ⟨some 25, .ext 22 0, none⟩,
        ⟨some 26, .ext 22 1, none⟩,
        ⟨some 27, .ext 22 2, none⟩,
        ⟨some 8, .cp (.v 25), none⟩,
        ⟨some 9, .cp (.v 26), none⟩,
        ⟨some 10, .cp (.v 27), none⟩] [0, 1, 5, 6, 8, 9, 10])
      (.seq (.reg [
         ⟨some 28, .cp (.v 10), none⟩] [0, 1, 5, 6, 8, 9, 28])
       (.cnd (.v 28) (.seq (.reg [
           ⟨some 29, .cp (.v 5), none⟩,
           ⟨some 30, .cp (.v 9), none⟩,
           ⟨some 31, .ari .mul .i64 (.v 29) (.v 30), none⟩,
           ⟨some 32, .cp (.v 8), none⟩,
           ⟨some 33, .cp (.v 6), none⟩,
           ⟨some 34, .ari .mul .i64 (.v 32) (.v 33), none⟩,
           ⟨some 35, .ari .add .i64 (.v 31) (.v 34), none⟩,
           ⟨some 36, .cp (.v 6), none⟩,
           ⟨some 37, .cp (.v 9), none⟩,
           ⟨some 38, .ari .mul .i64 (.v 36) (.v 37), none⟩,
           ⟨some 39, .call 64 [.v 35, .v 38], none⟩,
           ⟨some 4, .cp (.v 39), none⟩] [4])
         (.ret))
        (.skip))))
     (.skip))))
  (.seq (.reg [
     ⟨some 41, .cp (.v 0), none⟩,
     ⟨some 42, .call 65 [.v 41], none⟩,
     ⟨some 40, .cp (.v 42), none⟩,
     ⟨some 43, .ext 40 0, none⟩,
     ⟨some 44, .ext 40 1, none⟩,
     ⟨some 11, .cp (.v 43), none⟩,
     ⟨some 12, .cp (.v 44), none⟩] [1, 11, 12])
   (.seq (.reg [
      ⟨some 46, .cp (.v 1), none⟩,
      ⟨some 47, .call 65 [.v 46], none⟩,
      ⟨some 45, .cp (.v 47), none⟩,
      ⟨some 48, .ext 45 0, none⟩,
      ⟨some 49, .ext 45 1, none⟩,
      ⟨some 13, .cp (.v 48), none⟩,
      ⟨some 14, .cp (.v 49), none⟩] [11, 12, 13, 14])
    (.seq (.reg [
       ⟨some 50, .cp (.v 11), none⟩,
       ⟨some 51, .cp (.v 14), none⟩,
       ⟨some 52, .call 67 [.v 50, .v 51], none⟩,
       ⟨some 53, .cp (.v 13), none⟩,
       ⟨some 54, .cp (.v 12), none⟩,
       ⟨some 55, .call 67 [.v 53, .v 54], none⟩,
       ⟨some 56, .call 66 [.v 52, .v 55], none⟩,
       ⟨some 57, .cp (.v 12), none⟩,
       ⟨some 58, .cp (.v 14), none⟩,
       ⟨some 59, .call 67 [.v 57, .v 58], none⟩,
       ⟨some 60, .call 54 [.v 56, .v 59], none⟩,
       ⟨some 4, .cp (.v 60), none⟩] [4])
     (.ret)))))
def rs25 : List RV := [.t 4]
theorem chk25 : chkFn Tryz.prog Tryz.f25 2 pc25 rs25 = true := by kernel_rfl
theorem rule25 {L : World → Prop} (hL : ∀ w w', L w → Below w.heap.size w w' → L w') {ds : List D} {r : D} (hr0 : aliasOf r = none) (hlen : ds.length = 2) (hp : ds.all (fun d => (aliasOf d).isNone) = true)
    (h : wC (Con Tryz.prog L) pc25 (retQ rs25 r) (initE 0 ds)) : Con Tryz.prog L 25 ds r :=
  con_chk hL Tryz.func25 chk25 hr0 hlen hp (wC_sound h)

/-- slices.ContainsFunc[[]klippe/api.Relation,klippe/api.Relation] -/
def pc27 : PC := .seq (.reg [
   ⟨some 4, .cp (.k (.bool false)), none⟩] [0, 1])
 (.seq (.reg [
    ⟨some 5, .cp (.v 0), none⟩,
    ⟨some 6, .cp (.v 1), none⟩,
    ⟨some 7, .call 31 [.v 5, .v 6], none⟩,
    ⟨some 8, .ci .geq (.v 7) (.k (.int .i64 0)), none⟩,
    ⟨some 4, .cp (.v 8), none⟩] [4])
  (.ret))
def rs27 : List RV := [.t 4]
theorem chk27 : chkFn Tryz.prog Tryz.f27 2 pc27 rs27 = true := by kernel_rfl
theorem rule27 {L : World → Prop} (hL : ∀ w w', L w → Below w.heap.size w w' → L w') {ds : List D} {r : D} (hr0 : aliasOf r = none) (hlen : ds.length = 2) (hp : ds.all (fun d => (aliasOf d).isNone) = true)
    (h : wC (Con Tryz.prog L) pc27 (retQ rs27 r) (initE 0 ds)) : Con Tryz.prog L 27 ds r :=
  con_chk hL Tryz.func27 chk27 hr0 hlen hp (wC_sound h)

/-- klippe/klippelaw22.ColumnRelations$1 -/
def pc28 : PC := .seq (.reg [
   ⟨some 1, .bx 3 (.v 0), none⟩,
   ⟨some 2, .cp (.k (.bool false)), none⟩] [1])
 (.seq (.reg [
    ⟨some 3, .fa 1 (.v 1), none⟩,
    ⟨some 4, .ld false 1 (.o 3 1), none⟩,
    ⟨some 5, .lenS (.v 4), none⟩,
    ⟨some 6, .ci .gtr (.v 5) (.k (.int .i64 40)), none⟩,
    ⟨some 7, .cp (.v 6), none⟩,
    ⟨some 8, .fa 2 (.v 1), (some (7, false))⟩,
    ⟨some 9, .ld false 1 (.o 8 1), (some (7, false))⟩,
    ⟨some 10, .lenS (.v 9), (some (7, false))⟩,
    ⟨some 11, .ci .gtr (.v 10) (.k (.int .i64 40)), (some (7, false))⟩,
    ⟨some 12, .pick (.v 7) (.k (.bool true)) (.v 11), none⟩,
    ⟨some 2, .cp (.v 12), none⟩] [2])
  (.ret))
def rs28 : List RV := [.t 2]
theorem chk28 : chkFn Tryz.prog Tryz.f28 1 pc28 rs28 = true := by kernel_rfl
theorem rule28 {L : World → Prop} (hL : ∀ w w', L w → Below w.heap.size w w' → L w') {ds : List D} {r : D} (hr0 : aliasOf r = none) (hlen : ds.length = 1) (hp : ds.all (fun d => (aliasOf d).isNone) = true)
    (h : wC (Con Tryz.prog L) pc28 (retQ rs28 r) (initE 0 ds)) : Con Tryz.prog L 28 ds r :=
  con_chk hL Tryz.func28 chk28 hr0 hlen hp (wC_sound h)

/-- klippe/column.Consistent -/
def pc29 : PC := .seq (.reg [
   ⟨some 4, .cp (.k (.int .i64 0)), none⟩,
   ⟨some 5, .cp (.k (.bool false)), none⟩,
   ⟨some 6, .cp (.k (.int .i64 0)), none⟩] [0, 1])
 (.seq (.seq (.reg [
     ⟨some 15, .cp (.v 0), none⟩,
     ⟨some 16, .call 45 [.v 15], none⟩,
     ⟨some 7, .cp (.v 16), none⟩] [0, 1, 7])
   (.seq (.reg [
      ⟨some 17, .cp (.v 7), none⟩,
      ⟨some 18, .ci .neq (.v 17) (.k (.int .i64 0)), none⟩] [0, 1, 7, 18])
    (.cnd (.v 18) (.seq (.reg [
        ⟨some 19, .cp (.v 7), none⟩,
        ⟨some 4, .cp (.k (.int .i64 0)), none⟩,
        ⟨some 5, .cp (.k (.bool false)), none⟩,
        ⟨some 6, .cp (.v 19), none⟩] [4, 5, 6])
      (.ret))
     (.skip))))
  (.seq (.seq (.reg [
      ⟨some 20, .cp (.v 1), none⟩,
      ⟨some 21, .len (.v 20), none⟩,
      ⟨some 22, .cp (.k (.int .i64 0)), none⟩] [0, 1, 20, 21, 22])
    (.blk 0 (.loop (.seq (.reg [
         ⟨some 23, .ci .lss (.v 22) (.v 21), none⟩] [0, 1, 20, 21, 22, 23])
       (.seq (.cnd (.v 23) (.skip)
         (.exit 0))
        (.seq (.blk 1 (.seq (.reg [
             ⟨some 24, .ia 3 (.v 20) (.v 22), none⟩,
             ⟨some 25, .ld true 3 (.v 24), none⟩,
             ⟨some 9, .alloc [.int .i64 0, .str [], .str []], none⟩,
             ⟨none, .st 3 (.v 9) (.v 25), none⟩] [0, 1, 9, 20, 21, 22])
           (.seq (.reg [
              ⟨some 26, .ld true 3 (.v 9), none⟩,
              ⟨some 27, .call 30 [.v 26], none⟩,
              ⟨some 10, .cp (.v 27), none⟩] [0, 1, 10, 20, 21, 22])
            (.seq (.reg [
               ⟨some 28, .cp (.v 10), none⟩,
               ⟨some 29, .ci .neq (.v 28) (.k (.int .i64 0)), none⟩] [0, 1, 10, 20, 21, 22, 29])
             (.cnd (.v 29) (.seq (.reg [
                 ⟨some 30, .cp (.v 10), none⟩,
                 ⟨some 4, .cp (.k (.int .i64 0)), none⟩,
                 ⟨some 5, .cp (.k (.bool false)), none⟩,
                 ⟨some 6, .cp (.v 30), none⟩] [4, 5, 6])
               (.ret))
              (.skip))))))
         (.reg [
           ⟨some 31, .ari .add .i64 (.v 22) (.k (.int .i64 1)), none⟩,
           ⟨some 22, .cp (.v 31), none⟩] [0, 1, 20, 21, 22])))))))
   (.seq (.seq (.reg [
       ⟨some 32, .cp (.v 1), none⟩,
       ⟨some 33, .len (.v 32), none⟩,
       ⟨some 34, .cp (.k (.int .i64 0)), none⟩] [0, 32, 33, 34])
     (.blk 2 (.loop (.seq (.reg [
          ⟨some 35, .ci .lss (.v 34) (.v 33), none⟩] [0, 32, 33, 34, 35])
        (.seq (.cnd (.v 35) (.skip)
          (.exit 2))
         (.seq (.blk 3 (.seq (.reg [
              ⟨some 36, .cp (.v 34), none⟩,
              ⟨some 37, .ia 3 (.v 32) (.v 34), none⟩,
              ⟨some 38, .ld true 3 (.v 37), none⟩,
              ⟨some 12, .alloc [.int .i64 0, .str [], .str []], none⟩,
              ⟨some 11, .cp (.v 36), none⟩,
              ⟨none, .st 3 (.v 12) (.v 38), none⟩] [0, 11, 12, 32, 33, 34])
            (.seq (.reg [
               ⟨some 39, .cp (.v 0), none⟩,
               ⟨some 40, .fa 1 (.v 12), none⟩,
               ⟨some 41, .ld false 1 (.o 40 12), none⟩,
               ⟨some 42, .call 56 [.v 39, .v 41], none⟩,
               ⟨some 43, .cp (.v 0), none⟩,
               ⟨some 44, .fa 2 (.v 12), none⟩,
               ⟨some 45, .ld false 1 (.o 44 12), none⟩,
               ⟨some 46, .call 56 [.v 43, .v 45], none⟩,
               ⟨some 13, .cp (.v 42), none⟩,
               ⟨some 14, .cp (.v 46), none⟩] [0, 11, 12, 13, 14, 32, 33, 34])
             (.seq (.reg [
                ⟨some 47, .fa 0 (.v 12), none⟩,
                ⟨some 48, .ld false 1 (.o 47 12), none⟩,
                ⟨some 49, .ci .neq (.v 48) (.k (.int .i64 4)), none⟩,
                ⟨some 50, .cp (.v 49), none⟩,
                ⟨some 51, .cp (.v 13), (some (50, true))⟩,
                ⟨some 52, .ci .geq (.v 51) (.k (.int .i64 0)), (some (50, true))⟩,
                ⟨some 53, .pick (.v 50) (.v 52) (.k (.bool false)), none⟩,
                ⟨some 54, .cp (.v 53), none⟩,
                ⟨some 55, .cp (.v 14), (some (54, true))⟩,
                ⟨some 56, .ci .geq (.v 55) (.k (.int .i64 0)), (some (54, true))⟩,
                ⟨some 57, .pick (.v 54) (.v 56) (.k (.bool false)), none⟩,
                ⟨some 58, .cp (.v 57), none⟩,
                ⟨some 59, .cp (.v 13), (some (58, true))⟩,
                ⟨some 60, .cp (.v 14), (some (58, true))⟩,
                ⟨some 61, .ci .leq (.v 59) (.v 60), (some (58, true))⟩,
                ⟨some 62, .pick (.v 58) (.v 61) (.k (.bool false)), none⟩] [0, 11, 32, 33, 34, 62])
              (.cnd (.v 62) (.seq (.reg [
                  ⟨some 63, .cp (.v 11), none⟩,
                  ⟨some 4, .cp (.v 63), none⟩,
                  ⟨some 5, .cp (.k (.bool false)), none⟩,
                  ⟨some 6, .cp (.k (.int .i64 0)), none⟩] [4, 5, 6])
                (.ret))
               (.skip))))))
          (.reg [
            ⟨some 64, .ari .add .i64 (.v 34) (.k (.int .i64 1)), none⟩,
            ⟨some 34, .cp (.v 64), none⟩] [0, 32, 33, 34])))))))
    (.seq (.reg [
       ⟨some 4, .cp (.k (.int .i64 0)), none⟩,
       ⟨some 5, .cp (.k (.bool true)), none⟩,
       ⟨some 6, .cp (.k (.int .i64 0)), none⟩] [4, 5, 6])
     (.ret)))))
def rs29 : List RV := [.t 4, .t 5, .t 6]
theorem chk29 : chkFn Tryz.prog Tryz.f29 2 pc29 rs29 = true := by kernel_rfl
theorem rule29 {L : World → Prop} (hL : ∀ w w', L w → Below w.heap.size w w' → L w') {ds : List D} {r : D} (hr0 : aliasOf r = none) (hlen : ds.length = 2) (hp : ds.all (fun d => (aliasOf d).isNone) = true)
    (h : wC (Con Tryz.prog L) pc29 (retQ rs29 r) (initE 0 ds)) : Con Tryz.prog L 29 ds r :=
  con_chk hL Tryz.func29 chk29 hr0 hlen hp (wC_sound h)

/-- klippe/relation.Check -/
def pc30 : PC := .seq (.reg [
   ⟨some 1, .bx 3 (.v 0), none⟩,
   ⟨some 2, .cp (.k (.int .i64 0)), none⟩] [1])
 (.seq (.blk 0 (.seq (.reg [
      ⟨some 4, .fa 0 (.v 1), none⟩,
      ⟨some 5, .ld false 1 (.o 4 1), none⟩,
      ⟨some 6, .ci .lss (.v 5) (.k (.int .i64 1)), none⟩,
      ⟨some 7, .cp (.v 6), none⟩,
      ⟨some 8, .fa 0 (.v 1), (some (7, false))⟩,
      ⟨some 9, .ld false 1 (.o 8 1), (some (7, false))⟩,
      ⟨some 10, .ci .gtr (.v 9) (.k (.int .i64 4)), (some (7, false))⟩,
      ⟨some 11, .pick (.v 7) (.k (.bool true)) (.v 10), none⟩,
      ⟨some 3, .cp (.v 11), none⟩] [1, 3])
    (.cnd (.v 3) (.seq (.reg [
        ⟨some 2, .cp (.k (.int .i64 12)), none⟩] [2])
      (.ret))
     (.seq (.reg [
        ⟨some 13, .fa 1 (.v 1), none⟩,
        ⟨some 14, .ld false 1 (.o 13 1), none⟩,
        ⟨some 15, .call 68 [.v 14], none⟩,
        ⟨some 16, .not (.v 15), none⟩,
        ⟨some 17, .cp (.v 16), none⟩,
        ⟨some 18, .fa 2 (.v 1), (some (17, false))⟩,
        ⟨some 19, .ld false 1 (.o 18 1), (some (17, false))⟩,
        ⟨some 20, .call 68 [.v 19], (some (17, false))⟩,
        ⟨some 21, .not (.v 20), (some (17, false))⟩,
        ⟨some 22, .pick (.v 17) (.k (.bool true)) (.v 21), none⟩,
        ⟨some 12, .cp (.v 22), none⟩] [1, 12])
      (.cnd (.v 12) (.seq (.reg [
          ⟨some 2, .cp (.k (.int .i64 8)), none⟩] [2])
        (.ret))
       (.seq (.reg [
          ⟨some 24, .fa 1 (.v 1), none⟩,
          ⟨some 25, .ld false 1 (.o 24 1), none⟩,
          ⟨some 26, .fa 2 (.v 1), none⟩,
          ⟨some 27, .ld false 1 (.o 26 1), none⟩,
          ⟨some 28, .sc .eql (.v 25) (.v 27), none⟩,
          ⟨some 23, .cp (.v 28), none⟩] [23])
        (.cnd (.v 23) (.seq (.reg [
            ⟨some 2, .cp (.k (.int .i64 14)), none⟩] [2])
          (.ret))
         (.skip))))))))
  (.seq (.reg [
     ⟨some 2, .cp (.k (.int .i64 0)), none⟩] [2])
   (.ret)))
def rs30 : List RV := [.t 2]
theorem chk30 : chkFn Tryz.prog Tryz.f30 1 pc30 rs30 = true := by kernel_rfl
theorem rule30 {L : World → Prop} (hL : ∀ w w', L w → Below w.heap.size w w' → L w') {ds : List D} {r : D} (hr0 : aliasOf r = none) (hlen : ds.length = 1) (hp : ds.all (fun d => (aliasOf d).isNone) = true)
    (h : wC (Con Tryz.prog L) pc30 (retQ rs30 r) (initE 0 ds)) : Con Tryz.prog L 30 ds r :=
  con_chk hL Tryz.func30 chk30 hr0 hlen hp (wC_sound h)

/-- slices.IndexFunc[[]klippe/api.Relation,klippe/api.Relation] -/
def pc31 : PC := .seq (.reg [
   ⟨some 4, .cp (.k (.int .i64 0)), none⟩] [0, 1])
 (.seq (.seq (.reg [
     ⟨some 6, .cp (.v 0), none⟩,
     ⟨some 7, .len (.v 6), none⟩,
     ⟨some 8, .cp (.k (.int .i64 0)), none⟩] [0, 1, 7, 8])
   (.blk 0 (.loop (.seq (.reg [
        ⟨some 9, .ci .lss (.v 8) (.v 7), none⟩] [0, 1, 7, 8, 9])
      (.seq (.cnd (.v 9) (.skip)
        (.exit 0))
       (.seq (.blk 1 (.seq (.reg [
            ⟨some 10, .cp (.v 8), none⟩,
            ⟨some 5, .cp (.v 10), none⟩] [0, 1, 5, 7, 8])
          (.seq (.reg [
             ⟨some 11, .cp (.v 1), none⟩,
             ⟨some 12, .cp (.v 0), none⟩,
             ⟨some 13, .cp (.v 5), none⟩,
             ⟨some 14, .ia 3 (.v 12) (.v 13), none⟩,
             ⟨some 15, .ld true 3 (.v 14), none⟩,
             ⟨some 16, .callV 11 [.v 15], none⟩] [0, 1, 5, 7, 8, 16])
           (.cnd (.v 16) (.seq (.reg [
               ⟨some 17, .cp (.v 5), none⟩,
               ⟨some 4, .cp (.v 17), none⟩] [4])
             (.ret))
            (.skip)))))
        (.reg [
          ⟨some 18, .ari .add .i64 (.v 8) (.k (.int .i64 1)), none⟩,
          ⟨some 8, .cp (.v 18), none⟩] [0, 1, 7, 8])))))))
  (.seq (.reg [
     ⟨some 4, .cp (.k (.int .i64 (-1))), none⟩] [4])
   (.ret)))
def rs31 : List RV := [.t 4]
theorem chk31 : chkFn Tryz.prog Tryz.f31 2 pc31 rs31 = true := by kernel_rfl
theorem rule31 {L : World → Prop} (hL : ∀ w w', L w → Below w.heap.size w w' → L w') {ds : List D} {r : D} (hr0 : aliasOf r = none) (hlen : ds.length = 2) (hp : ds.all (fun d => (aliasOf d).isNone) = true)
    (h : wC (Con Tryz.prog L) pc31 (retQ rs31 r) (initE 0 ds)) : Con Tryz.prog L 31 ds r :=
  con_chk hL Tryz.func31 chk31 hr0 hlen hp (wC_sound h)

/-- klippe/klippelaw22.ColumnRelations$2 -/
def pc32 : PC := .seq (.reg [
   ⟨some 2, .bx 3 (.v 0), none⟩,
   ⟨some 3, .cp (.k (.bool false)), none⟩] [1, 2])
 (.seq (.reg [
    ⟨some 6, .ld false 1 (.v 1), none⟩,
    ⟨some 7, .fa 1 (.v 2), none⟩,
    ⟨some 8, .ld false 1 (.o 7 2), none⟩,
    ⟨some 9, .call 20 [.v 6, .v 8], none⟩,
    ⟨some 10, .ld false 1 (.v 1), none⟩,
    ⟨some 11, .fa 2 (.v 2), none⟩,
    ⟨some 12, .ld false 1 (.o 11 2), none⟩,
    ⟨some 13, .call 20 [.v 10, .v 12], none⟩,
    ⟨some 4, .cp (.v 9), none⟩,
    ⟨some 5, .cp (.v 13), none⟩] [2, 4, 5])
  (.seq (.reg [
     ⟨some 14, .fa 0 (.v 2), none⟩,
     ⟨some 15, .ld false 1 (.o 14 2), none⟩,
     ⟨some 16, .ci .neq (.v 15) (.k (.int .i64 4)), none⟩,
     ⟨some 17, .cp (.v 16), none⟩,
     ⟨some 18, .cp (.v 4), (some (17, true))⟩,
     ⟨some 19, .ci .geq (.v 18) (.k (.int .i64 0)), (some (17, true))⟩,
     ⟨some 20, .pick (.v 17) (.v 19) (.k (.bool false)), none⟩,
     ⟨some 21, .cp (.v 20), none⟩,
     ⟨some 22, .cp (.v 5), (some (21, true))⟩,
     ⟨some 23, .ci .geq (.v 22) (.k (.int .i64 0)), (some (21, true))⟩,
     ⟨some 24, .pick (.v 21) (.v 23) (.k (.bool false)), none⟩,
     ⟨some 25, .cp (.v 24), none⟩,
     ⟨some 26, .cp (.v 4), (some (25, true))⟩,
     ⟨some 27, .cp (.v 5), (some (25, true))⟩,
     ⟨some 28, .ci .leq (.v 26) (.v 27), (some (25, true))⟩,
     ⟨some 29, .pick (.v 25) (.v 28) (.k (.bool false)), none⟩,
     ⟨some 3, .cp (.v 29), none⟩] [3])
   (.ret)))
def rs32 : List RV := [.t 3]
theorem chk32 : chkFn Tryz.prog Tryz.f32 2 pc32 rs32 = true := by kernel_rfl
theorem rule32 {L : World → Prop} (hL : ∀ w w', L w → Below w.heap.size w w' → L w') {ds : List D} {r : D} (hr0 : aliasOf r = none) (hlen : ds.length = 2) (hp : ds.all (fun d => (aliasOf d).isNone) = true)
    (h : wC (Con Tryz.prog L) pc32 (retQ rs32 r) (initE 0 ds)) : Con Tryz.prog L 32 ds r :=
  con_chk hL Tryz.func32 chk32 hr0 hlen hp (wC_sound h)

/-- klippe/column.Restrict -/
def pc33 : PC := .seq (.reg [
   ⟨some 4, .nil 39, none⟩,
   ⟨some 5, .cp (.k (.int .i64 0)), none⟩] [0, 1])
 (.seq (.seq (.reg [
     ⟨some 12, .cp (.v 0), none⟩,
     ⟨some 13, .call 45 [.v 12], none⟩,
     ⟨some 6, .cp (.v 13), none⟩] [0, 1, 6])
   (.seq (.reg [
      ⟨some 14, .cp (.v 6), none⟩,
      ⟨some 15, .ci .neq (.v 14) (.k (.int .i64 0)), none⟩] [0, 1, 6, 15])
    (.cnd (.v 15) (.seq (.reg [
        ⟨some 16, .cp (.v 6), none⟩,
        ⟨some 4, .nil 39, none⟩,
        ⟨some 5, .cp (.v 16), none⟩] [4, 5])
      (.ret))
     (.skip))))
  (.seq (.seq (.reg [
      ⟨some 17, .cp (.v 1), none⟩,
      ⟨some 18, .len (.v 17), none⟩,
      ⟨some 19, .ci .eql (.v 18) (.k (.int .i64 0)), none⟩] [0, 1, 19])
    (.cnd (.v 19) (.seq (.reg [
        ⟨some 4, .nil 39, none⟩,
        ⟨some 5, .cp (.k (.int .i64 13)), none⟩] [4, 5])
      (.ret))
     (.skip)))
   (.seq (.seq (.reg [
       ⟨some 20, .cp (.v 1), none⟩,
       ⟨some 21, .len (.v 20), none⟩,
       ⟨some 22, .cp (.k (.int .i64 0)), none⟩] [0, 1, 20, 21, 22])
     (.blk 0 (.loop (.seq (.reg [
          ⟨some 23, .ci .lss (.v 22) (.v 21), none⟩] [0, 1, 20, 21, 22, 23])
        (.seq (.cnd (.v 23) (.skip)
          (.exit 0))
         (.seq (.blk 1 (.seq (.reg [
              ⟨some 24, .cp (.v 22), none⟩,
              ⟨some 25, .ia 1 (.v 20) (.v 22), none⟩,
              ⟨some 26, .ld false 1 (.v 25), none⟩,
              ⟨some 7, .cp (.v 24), none⟩,
              ⟨some 8, .cp (.v 26), none⟩] [0, 1, 7, 8, 20, 21, 22])
            (.seq (.seq (.reg [
                ⟨some 27, .cp (.v 0), none⟩,
                ⟨some 28, .cp (.v 8), none⟩,
                ⟨some 29, .call 56 [.v 27, .v 28], none⟩,
                ⟨some 30, .ci .lss (.v 29) (.k (.int .i64 0)), none⟩] [0, 1, 7, 8, 20, 21, 22, 30])
              (.cnd (.v 30) (.seq (.reg [
                  ⟨some 4, .nil 39, none⟩,
                  ⟨some 5, .cp (.k (.int .i64 10)), none⟩] [4, 5])
                (.ret))
               (.skip)))
             (.seq (.reg [
                ⟨some 31, .cp (.v 1), none⟩,
                ⟨some 32, .cp (.v 7), none⟩,
                ⟨some 33, .slc 1 (.v 31) none (some (.v 32)), none⟩,
                ⟨some 34, .cp (.v 8), none⟩,
                ⟨some 35, .call 39 [.v 33, .v 34], none⟩] [0, 1, 20, 21, 22, 35])
              (.cnd (.v 35) (.seq (.reg [
                  ⟨some 4, .nil 39, none⟩,
                  ⟨some 5, .cp (.k (.int .i64 9)), none⟩] [4, 5])
                (.ret))
               (.skip))))))
          (.reg [
            ⟨some 36, .ari .add .i64 (.v 22) (.k (.int .i64 1)), none⟩,
            ⟨some 22, .cp (.v 36), none⟩] [0, 1, 20, 21, 22])))))))
    (.seq (.reg [
       ⟨some 9, .nil 39, none⟩] [0, 1, 9])
     (.seq (.seq (.reg [
         ⟨some 37, .cp (.v 0), none⟩,
         ⟨some 38, .len (.v 37), none⟩,
         ⟨some 39, .cp (.k (.int .i64 0)), none⟩] [1, 9, 37, 38, 39])
       (.blk 2 (.loop (.seq (.reg [
            ⟨some 40, .ci .lss (.v 39) (.v 38), none⟩] [1, 9, 37, 38, 39, 40])
          (.seq (.cnd (.v 40) (.skip)
            (.exit 2))
           (.seq (.blk 3 (.seq (.reg [
                ⟨some 41, .ia 3 (.v 37) (.v 39), none⟩,
                ⟨some 42, .ld true 3 (.v 41), none⟩,
                ⟨some 11, .alloc [.str [], .str [], .str []], none⟩,
                ⟨none, .st 3 (.v 11) (.v 42), none⟩] [1, 9, 11, 37, 38, 39])
              (.seq (.reg [
                 ⟨some 43, .cp (.v 1), none⟩,
                 ⟨some 44, .fa 0 (.v 11), none⟩,
                 ⟨some 45, .ld false 1 (.o 44 11), none⟩,
                 ⟨some 46, .call 39 [.v 43, .v 45], none⟩] [1, 9, 11, 37, 38, 39, 46])
               (.cnd (.v 46) (.reg [
                  ⟨some 47, .tk 9, none⟩,
                  ⟨some 48, .ld true 3 (.v 11), none⟩,
                  ⟨some 49, .bldS 39 [.str [], .str [], .str []] 1 [(0, 3, .v 48)], none⟩,
                  ⟨some 50, .app 39 3 48 (.v 47) (.v 49), none⟩,
                  ⟨some 9, .tk 50, none⟩] [1, 9, 37, 38, 39])
                (.skip)))))
            (.reg [
              ⟨some 51, .ari .add .i64 (.v 39) (.k (.int .i64 1)), none⟩,
              ⟨some 39, .cp (.v 51), none⟩] [1, 9, 37, 38, 39])))))))
      (.seq (.reg [
         ⟨some 52, .tk 9, none⟩,
         ⟨some 4, .tk 52, none⟩,
         ⟨some 5, .cp (.k (.int .i64 0)), none⟩] [4, 5])
       (.ret)))))))
def rs33 : List RV := [.t 4, .t 5]
theorem chk33 : chkFn Tryz.prog Tryz.f33 2 pc33 rs33 = true := by kernel_rfl
theorem rule33 {L : World → Prop} (hL : ∀ w w', L w → Below w.heap.size w w' → L w') {ds : List D} {r : D} (hr0 : aliasOf r = none) (hlen : ds.length = 2) (hp : ds.all (fun d => (aliasOf d).isNone) = true)
    (h : wC (Con Tryz.prog L) pc33 (retQ rs33 r) (initE 0 ds)) : Con Tryz.prog L 33 ds r :=
  con_chk hL Tryz.func33 chk33 hr0 hlen hp (wC_sound h)

/-- klippe/klippelaw22.join -/
def pc34 : PC := .seq (.reg [
   ⟨some 4, .nil 39, none⟩,
   ⟨some 5, .cp (.k (.int .i64 0)), none⟩] [0, 1])
 (.seq (.seq (.reg [
     ⟨some 10, .cp (.v 0), none⟩,
     ⟨some 11, .len (.v 10), none⟩,
     ⟨some 12, .cp (.k (.int .i64 0)), none⟩] [0, 1, 10, 11, 12])
   (.blk 0 (.loop (.seq (.reg [
        ⟨some 13, .ci .lss (.v 12) (.v 11), none⟩] [0, 1, 10, 11, 12, 13])
      (.seq (.cnd (.v 13) (.skip)
        (.exit 0))
       (.seq (.blk 1 (.seq (.reg [
            ⟨some 14, .ia 3 (.v 10) (.v 12), none⟩,
            ⟨some 15, .ld true 3 (.v 14), none⟩,
            ⟨some 7, .alloc [.str [], .str [], .str []], none⟩,
            ⟨none, .st 3 (.v 7) (.v 15), none⟩] [0, 1, 7, 10, 11, 12])
          (.seq (.reg [
             ⟨some 16, .cp (.v 1), none⟩,
             ⟨some 17, .fa 0 (.v 7), none⟩,
             ⟨some 18, .ld false 1 (.o 17 7), none⟩,
             ⟨some 19, .call 20 [.v 16, .v 18], none⟩,
             ⟨some 8, .cp (.v 19), none⟩] [0, 1, 7, 8, 10, 11, 12])
           (.seq (.reg [
              ⟨some 20, .cp (.v 8), none⟩,
              ⟨some 21, .ci .geq (.v 20) (.k (.int .i64 0)), none⟩,
              ⟨some 22, .cp (.v 21), none⟩,
              ⟨some 23, .cp (.v 1), (some (22, true))⟩,
              ⟨some 24, .cp (.v 8), (some (22, true))⟩,
              ⟨some 25, .ia 3 (.v 23) (.v 24), (some (22, true))⟩,
              ⟨some 26, .ld true 3 (.v 25), (some (22, true))⟩,
              ⟨some 27, .ld true 3 (.v 7), (some (22, true))⟩,
              ⟨some 28, .eq true [2, 2, 2] (.v 26) (.v 27), (some (22, true))⟩,
              ⟨some 29, .pick (.v 22) (.v 28) (.k (.bool false)), none⟩] [0, 1, 10, 11, 12, 29])
            (.cnd (.v 29) (.seq (.reg [
                ⟨some 4, .nil 39, none⟩,
                ⟨some 5, .cp (.k (.int .i64 14)), none⟩] [4, 5])
              (.ret))
             (.skip))))))
        (.reg [
          ⟨some 30, .ari .add .i64 (.v 12) (.k (.int .i64 1)), none⟩,
          ⟨some 12, .cp (.v 30), none⟩] [0, 1, 10, 11, 12])))))))
  (.seq (.reg [
     ⟨some 9, .nil 39, none⟩] [0, 1, 9])
   (.seq (.blk 2 (.loop (.seq (.seq (.reg [
          ⟨some 31, .cp (.v 0), none⟩,
          ⟨some 32, .len (.v 31), none⟩,
          ⟨some 33, .cp (.v 1), none⟩,
          ⟨some 34, .len (.v 33), none⟩,
          ⟨some 35, .ari .add .i64 (.v 32) (.v 34), none⟩,
          ⟨some 36, .ci .gtr (.v 35) (.k (.int .i64 0)), none⟩] [0, 1, 9, 36])
        (.cnd (.v 36) (.skip)
         (.exit 2)))
       (.blk 3 (.blk 4 (.seq (.reg [
            ⟨some 38, .cp (.v 0), none⟩,
            ⟨some 39, .len (.v 38), none⟩,
            ⟨some 40, .ci .gtr (.v 39) (.k (.int .i64 0)), none⟩,
            ⟨some 41, .cp (.v 40), none⟩,
            ⟨some 42, .cp (.v 1), (some (41, true))⟩,
            ⟨some 43, .cp (.v 0), (some (41, true))⟩,
            ⟨some 44, .ia 3 (.v 43) (.k (.int .i64 0)), (some (41, true))⟩,
            ⟨some 45, .fa 0 (.v 44), (some (41, true))⟩,
            ⟨some 46, .ld false 1 (.o 45 44), (some (41, true))⟩,
            ⟨some 47, .call 20 [.v 42, .v 46], (some (41, true))⟩,
            ⟨some 48, .ci .leq (.v 47) (.k (.int .i64 0)), (some (41, true))⟩,
            ⟨some 49, .pick (.v 41) (.v 48) (.k (.bool false)), none⟩,
            ⟨some 37, .cp (.v 49), none⟩] [0, 1, 9, 37])
          (.cnd (.v 37) (.seq (.seq (.reg [
               ⟨some 50, .cp (.v 1), none⟩,
               ⟨some 51, .cp (.v 0), none⟩,
               ⟨some 52, .ia 3 (.v 51) (.k (.int .i64 0)), none⟩,
               ⟨some 53, .fa 0 (.v 52), none⟩,
               ⟨some 54, .ld false 1 (.o 53 52), none⟩,
               ⟨some 55, .call 20 [.v 50, .v 54], none⟩,
               ⟨some 56, .ci .eql (.v 55) (.k (.int .i64 0)), none⟩] [0, 1, 9, 56])
             (.cnd (.v 56) (.reg [
                ⟨some 57, .cp (.v 1), none⟩,
                ⟨some 58, .slc 3 (.v 57) (some (.k (.int .i64 1))) none, none⟩,
                ⟨some 1, .cp (.v 58), none⟩] [0, 1, 9])
              (.skip)))
            (.reg [
              ⟨some 59, .tk 9, none⟩,
              ⟨some 60, .cp (.v 0), none⟩,
              ⟨some 61, .ia 3 (.v 60) (.k (.int .i64 0)), none⟩,
              ⟨some 62, .ld true 3 (.v 61), none⟩,
              ⟨some 63, .bldS 39 [.str [], .str [], .str []] 1 [(0, 3, .v 62)], none⟩,
              ⟨some 64, .app 39 3 48 (.v 59) (.v 63), none⟩,
              ⟨some 65, .cp (.v 0), none⟩,
              ⟨some 66, .slc 3 (.v 65) (some (.k (.int .i64 1))) none, none⟩,
              ⟨some 9, .tk 64, none⟩,
              ⟨some 0, .cp (.v 66), none⟩] [0, 1, 9]))
           (.seq (.reg [
              ⟨some 68, .cp (.v 1), none⟩,
              ⟨some 69, .len (.v 68), none⟩,
              ⟨some 70, .ci .gtr (.v 69) (.k (.int .i64 0)), none⟩,
              ⟨some 71, .cp (.v 70), none⟩,
              ⟨some 72, .cp (.v 0), (some (71, true))⟩,
              ⟨some 73, .cp (.v 1), (some (71, true))⟩,
              ⟨some 74, .ia 3 (.v 73) (.k (.int .i64 0)), (some (71, true))⟩,
              ⟨some 75, .fa 0 (.v 74), (some (71, true))⟩,
              ⟨some 76, .ld false 1 (.o 75 74), (some (71, true))⟩,
              ⟨some 77, .call 20 [.v 72, .v 76], (some (71, true))⟩,
              ⟨some 78, .ci .lss (.v 77) (.k (.int .i64 0)), (some (71, true))⟩,
              ⟨some 79, .pick (.v 71) (.v 78) (.k (.bool false)), none⟩,
              ⟨some 67, .cp (.v 79), none⟩] [0, 1, 9, 67])
            (.cnd (.v 67) (.reg [
               ⟨some 80, .tk 9, none⟩,
               ⟨some 81, .cp (.v 1), none⟩,
               ⟨some 82, .ia 3 (.v 81) (.k (.int .i64 0)), none⟩,
               ⟨some 83, .ld true 3 (.v 82), none⟩,
               ⟨some 84, .bldS 39 [.str [], .str [], .str []] 1 [(0, 3, .v 83)], none⟩,
               ⟨some 85, .app 39 3 48 (.v 80) (.v 84), none⟩,
               ⟨some 86, .cp (.v 1), none⟩,
               ⟨some 87, .slc 3 (.v 86) (some (.k (.int .i64 1))) none, none⟩,
               ⟨some 9, .tk 85, none⟩,
               ⟨some 1, .cp (.v 87), none⟩] [0, 1, 9])
             (.seq (.reg [
                ⟨some 4, .nil 39, none⟩,
                ⟨some 5, .cp (.k (.int .i64 27)), none⟩] [4, 5])
              (.ret)))))))))))
    (.seq (.seq (.reg [
        ⟨some 88, .mv (.v 9), none⟩,
        ⟨some 89, .len (.o 88 9), none⟩,
        ⟨some 90, .ci .gtr (.v 89) (.k (.int .i64 60)), none⟩] [9, 90])
      (.cnd (.v 90) (.seq (.reg [
          ⟨some 4, .nil 39, none⟩,
          ⟨some 5, .cp (.k (.int .i64 4)), none⟩] [4, 5])
        (.ret))
       (.skip)))
     (.seq (.reg [
        ⟨some 91, .tk 9, none⟩,
        ⟨some 4, .tk 91, none⟩,
        ⟨some 5, .cp (.k (.int .i64 0)), none⟩] [4, 5])
      (.ret))))))
def rs34 : List RV := [.t 4, .t 5]
theorem chk34 : chkFn Tryz.prog Tryz.f34 2 pc34 rs34 = true := by kernel_rfl
theorem rule34 {L : World → Prop} (hL : ∀ w w', L w → Below w.heap.size w w' → L w') {ds : List D} {r : D} (hr0 : aliasOf r = none) (hlen : ds.length = 2) (hp : ds.all (fun d => (aliasOf d).isNone) = true)
    (h : wC (Con Tryz.prog L) pc34 (retQ rs34 r) (initE 0 ds)) : Con Tryz.prog L 34 ds r :=
  con_chk hL Tryz.func34 chk34 hr0 hlen hp (wC_sound h)

/-- klippe/column.Units -/
def pc35 : PC := .seq (.reg [
   ⟨some 2, .nil 9, none⟩,
   ⟨some 3, .cp (.k (.int .i64 0)), none⟩] [0])
 (.seq (.seq (.reg [
     ⟨some 5, .cp (.v 0), none⟩,
     ⟨some 6, .call 45 [.v 5], none⟩,
     ⟨some 4, .cp (.v 6), none⟩] [0, 4])
   (.seq (.reg [
      ⟨some 7, .cp (.v 4), none⟩,
      ⟨some 8, .ci .neq (.v 7) (.k (.int .i64 0)), none⟩] [0, 4, 8])
    (.cnd (.v 8) (.seq (.reg [
        ⟨some 9, .cp (.v 4), none⟩,
        ⟨some 2, .nil 9, none⟩,
        ⟨some 3, .cp (.v 9), none⟩] [2, 3])
      (.ret))
     (.skip))))
  (.seq (.reg [
     ⟨some 10, .cp (.v 0), none⟩,
     ⟨some 11, .call 69 [.v 10], none⟩,
     ⟨some 2, .tk 11, none⟩,
     ⟨some 3, .cp (.k (.int .i64 0)), none⟩] [2, 3])
   (.ret)))
def rs35 : List RV := [.t 2, .t 3]
theorem chk35 : chkFn Tryz.prog Tryz.f35 1 pc35 rs35 = true := by kernel_rfl
theorem rule35 {L : World → Prop} (hL : ∀ w w', L w → Below w.heap.size w w' → L w') {ds : List D} {r : D} (hr0 : aliasOf r = none) (hlen : ds.length = 1) (hp : ds.all (fun d => (aliasOf d).isNone) = true)
    (h : wC (Con Tryz.prog L) pc35 (retQ rs35 r) (initE 0 ds)) : Con Tryz.prog L 35 ds r :=
  con_chk hL Tryz.func35 chk35 hr0 hlen hp (wC_sound h)

/-- klippe/column.Order -/
def pc36 : PC := .seq (.reg [
   ⟨some 4, .cp (.k (.int .i64 0)), none⟩,
   ⟨some 5, .cp (.k (.bool false)), none⟩,
   ⟨some 6, .cp (.k (.int .i64 0)), none⟩] [0, 1])
 (.seq (.seq (.reg [
     ⟨some 13, .cp (.v 0), none⟩,
     ⟨some 14, .call 45 [.v 13], none⟩,
     ⟨some 7, .cp (.v 14), none⟩] [0, 1, 7])
   (.seq (.reg [
      ⟨some 15, .cp (.v 7), none⟩,
      ⟨some 16, .ci .neq (.v 15) (.k (.int .i64 0)), none⟩] [0, 1, 7, 16])
    (.cnd (.v 16) (.seq (.reg [
        ⟨some 17, .cp (.v 7), none⟩,
        ⟨some 4, .cp (.k (.int .i64 0)), none⟩,
        ⟨some 5, .cp (.k (.bool false)), none⟩,
        ⟨some 6, .cp (.v 17), none⟩] [4, 5, 6])
      (.ret))
     (.skip))))
  (.seq (.reg [
     ⟨some 8, .nil 3, none⟩] [0, 1, 8])
   (.seq (.seq (.reg [
       ⟨some 18, .cp (.v 1), none⟩,
       ⟨some 19, .len (.v 18), none⟩,
       ⟨some 20, .cp (.k (.int .i64 0)), none⟩] [0, 8, 18, 19, 20])
     (.blk 0 (.loop (.seq (.reg [
          ⟨some 21, .ci .lss (.v 20) (.v 19), none⟩] [0, 8, 18, 19, 20, 21])
        (.seq (.cnd (.v 21) (.skip)
          (.exit 0))
         (.seq (.blk 1 (.seq (.reg [
              ⟨some 22, .ia 1 (.v 18) (.v 20), none⟩,
              ⟨some 23, .ld false 1 (.v 22), none⟩,
              ⟨some 10, .cp (.v 23), none⟩] [0, 8, 10, 18, 19, 20])
            (.seq (.reg [
               ⟨some 24, .cp (.v 0), none⟩,
               ⟨some 25, .cp (.v 10), none⟩,
               ⟨some 26, .call 56 [.v 24, .v 25], none⟩,
               ⟨some 11, .cp (.v 26), none⟩] [0, 8, 11, 18, 19, 20])
             (.seq (.seq (.reg [
                 ⟨some 27, .cp (.v 11), none⟩,
                 ⟨some 28, .ci .lss (.v 27) (.k (.int .i64 0)), none⟩] [0, 8, 11, 18, 19, 20, 28])
               (.cnd (.v 28) (.seq (.reg [
                   ⟨some 4, .cp (.k (.int .i64 0)), none⟩,
                   ⟨some 5, .cp (.k (.bool false)), none⟩,
                   ⟨some 6, .cp (.k (.int .i64 10)), none⟩] [4, 5, 6])
                 (.ret))
                (.skip)))
              (.reg [
                ⟨some 29, .tk 8, none⟩,
                ⟨some 30, .cp (.v 11), none⟩,
                ⟨some 31, .bldS 3 [.int .i64 0] 1 [(0, 1, .v 30)], none⟩,
                ⟨some 32, .app 3 1 8 (.v 29) (.v 31), none⟩,
                ⟨some 8, .tk 32, none⟩] [0, 8, 18, 19, 20])))))
          (.reg [
            ⟨some 33, .ari .add .i64 (.v 20) (.k (.int .i64 1)), none⟩,
            ⟨some 20, .cp (.v 33), none⟩] [0, 8, 18, 19, 20])))))))
    (.seq (.seq (.reg [
        ⟨some 12, .cp (.k (.int .i64 1)), none⟩] [8, 12])
      (.blk 2 (.loop (.seq (.seq (.reg [
            ⟨some 34, .cp (.v 12), none⟩,
            ⟨some 35, .mv (.v 8), none⟩,
            ⟨some 36, .len (.o 35 8), none⟩,
            ⟨some 37, .ci .lss (.v 34) (.v 36), none⟩] [8, 12, 37])
          (.cnd (.v 37) (.skip)
           (.exit 2)))
         (.seq (.blk 3 (.seq (.reg [
              ⟨some 40, .mv (.v 8), none⟩,
              ⟨some 41, .cp (.v 12), none⟩,
              ⟨some 42, .ia 1 (.o 40 8) (.v 41), none⟩,
              ⟨some 43, .ld false 1 (.o 42 8), none⟩,
              ⟨some 44, .mv (.v 8), none⟩,
              ⟨some 45, .cp (.v 12), none⟩,
              ⟨some 46, .ari .sub .i64 (.v 45) (.k (.int .i64 1)), none⟩,
              ⟨some 47, .ia 1 (.o 44 8) (.v 46), none⟩,
              ⟨some 48, .ld false 1 (.o 47 8), none⟩,
              ⟨some 49, .ci .leq (.v 43) (.v 48), none⟩] [8, 12, 49])
            (.cnd (.v 49) (.seq (.reg [
                ⟨some 50, .cp (.v 12), none⟩,
                ⟨some 4, .cp (.v 50), none⟩,
                ⟨some 5, .cp (.k (.bool false)), none⟩,
                ⟨some 6, .cp (.k (.int .i64 0)), none⟩] [4, 5, 6])
              (.ret))
             (.skip))))
          (.reg [
            ⟨some 38, .cp (.v 12), none⟩,
            ⟨some 39, .ari .add .i64 (.v 38) (.k (.int .i64 1)), none⟩,
            ⟨some 12, .cp (.v 39), none⟩] [8, 12]))))))
     (.seq (.reg [
        ⟨some 4, .cp (.k (.int .i64 0)), none⟩,
        ⟨some 5, .cp (.k (.bool true)), none⟩,
        ⟨some 6, .cp (.k (.int .i64 0)), none⟩] [4, 5, 6])
      (.ret))))))
def rs36 : List RV := [.t 4, .t 5, .t 6]
theorem chk36 : chkFn Tryz.prog Tryz.f36 2 pc36 rs36 = true := by kernel_rfl
theorem rule36 {L : World → Prop} (hL : ∀ w w', L w → Below w.heap.size w w' → L w') {ds : List D} {r : D} (hr0 : aliasOf r = none) (hlen : ds.length = 2) (hp : ds.all (fun d => (aliasOf d).isNone) = true)
    (h : wC (Con Tryz.prog L) pc36 (retQ rs36 r) (initE 0 ds)) : Con Tryz.prog L 36 ds r :=
  con_chk hL Tryz.func36 chk36 hr0 hlen hp (wC_sound h)

/-- slices.ContainsFunc[[]string,string] -/
def pc37 : PC := .seq (.reg [
   ⟨some 4, .cp (.k (.bool false)), none⟩] [0, 1])
 (.seq (.reg [
    ⟨some 5, .cp (.v 0), none⟩,
    ⟨some 6, .cp (.v 1), none⟩,
    ⟨some 7, .call 70 [.v 5, .v 6], none⟩,
    ⟨some 8, .ci .geq (.v 7) (.k (.int .i64 0)), none⟩,
    ⟨some 4, .cp (.v 8), none⟩] [4])
  (.ret))
def rs37 : List RV := [.t 4]
theorem chk37 : chkFn Tryz.prog Tryz.f37 2 pc37 rs37 = true := by kernel_rfl
theorem rule37 {L : World → Prop} (hL : ∀ w w', L w → Below w.heap.size w w' → L w') {ds : List D} {r : D} (hr0 : aliasOf r = none) (hlen : ds.length = 2) (hp : ds.all (fun d => (aliasOf d).isNone) = true)
    (h : wC (Con Tryz.prog L) pc37 (retQ rs37 r) (initE 0 ds)) : Con Tryz.prog L 37 ds r :=
  con_chk hL Tryz.func37 chk37 hr0 hlen hp (wC_sound h)

/-- klippe/klippelaw22.ColumnRestricts$1 -/
def pc38 : PC := .seq (.reg [
   ⟨some 3, .cp (.k (.bool false)), none⟩] [0, 1])
 (.seq (.reg [
    ⟨some 4, .ld false 1 (.v 1), none⟩,
    ⟨some 5, .cp (.v 0), none⟩,
    ⟨some 6, .call 20 [.v 4, .v 5], none⟩,
    ⟨some 7, .ci .lss (.v 6) (.k (.int .i64 0)), none⟩,
    ⟨some 3, .cp (.v 7), none⟩] [3])
  (.ret))
def rs38 : List RV := [.t 3]
theorem chk38 : chkFn Tryz.prog Tryz.f38 2 pc38 rs38 = true := by kernel_rfl
theorem rule38 {L : World → Prop} (hL : ∀ w w', L w → Below w.heap.size w w' → L w') {ds : List D} {r : D} (hr0 : aliasOf r = none) (hlen : ds.length = 2) (hp : ds.all (fun d => (aliasOf d).isNone) = true)
    (h : wC (Con Tryz.prog L) pc38 (retQ rs38 r) (initE 0 ds)) : Con Tryz.prog L 38 ds r :=
  con_chk hL Tryz.func38 chk38 hr0 hlen hp (wC_sound h)

/-- slices.Contains[[]string,string] -/
def pc39 : PC := .seq (.reg [
   ⟨some 4, .cp (.k (.bool false)), none⟩] [0, 1])
 (.seq (.reg [
    ⟨some 5, .cp (.v 0), none⟩,
    ⟨some 6, .cp (.v 1), none⟩,
    ⟨some 7, .call 71 [.v 5, .v 6], none⟩,
    ⟨some 8, .ci .geq (.v 7) (.k (.int .i64 0)), none⟩,
    ⟨some 4, .cp (.v 8), none⟩] [4])
  (.ret))
def rs39 : List RV := [.t 4]
theorem chk39 : chkFn Tryz.prog Tryz.f39 2 pc39 rs39 = true := by kernel_rfl
theorem rule39 {L : World → Prop} (hL : ∀ w w', L w → Below w.heap.size w w' → L w') {ds : List D} {r : D} (hr0 : aliasOf r = none) (hlen : ds.length = 2) (hp : ds.all (fun d => (aliasOf d).isNone) = true)
    (h : wC (Con Tryz.prog L) pc39 (retQ rs39 r) (initE 0 ds)) : Con Tryz.prog L 39 ds r :=
  con_chk hL Tryz.func39 chk39 hr0 hlen hp (wC_sound h)

/-- slices.Clone[[]klippe/api.Layer,klippe/api.Layer] -/
def pc41 : PC := .seq (.reg [
   ⟨some 2, .nil 39, none⟩] [0])
 (.seq (.seq (.cus [3, 4] (nilT 0 4 [0]))
   (.cnd (.v 4) (.seq (.reg [
       ⟨some 2, .nil 39, none⟩] [2])
     (.ret))
    (.skip)))
  (.seq (.reg [
     ⟨some 5, .bldS 39 [.str [], .str [], .str []] 0 [], none⟩,
     ⟨some 6, .cp (.v 0), none⟩,
     ⟨some 7, .app 39 3 48 (.v 5) (.v 6), none⟩,
     ⟨some 2, .tk 7, none⟩] [2])
   (.ret)))
def rs41 : List RV := [.t 2]
theorem chk41 : chkFnR Tryz.prog Tryz.f41 1 pc41 rs41 = true := by kernel_rfl
theorem rule41 {L : World → Prop} (hL : ∀ w w', L w → Below w.heap.size w w' → L w') (hbk : ∀ q ∈ pc41.backs, IsBack Tryz.prog q.1 q.2.1 q.2.2) (hcu : ∀ c, Tryz.f41.body = some c → ∀ q ∈ cusL c pc41, CusOk Tryz.prog L q.1 q.2.1 q.2.2) {ds : List D} {r : D} (hr0 : aliasOf r = none) (hlen : ds.length = 1) (hp : ds.all (fun d => (aliasOf d).isNone) = true)
    (h : wC (Con Tryz.prog L) pc41 (retQ rs41 r) (initE 0 ds)) : Con Tryz.prog L 41 ds r :=
  con_chkR hL Tryz.func41 chk41 hbk hcu hr0 hlen hp (wC_sound h)

/-- klippe/klippelaw22.ColumnRestricts$2 -/
def pc42 : PC := .seq (.reg [
   ⟨some 2, .bx 3 (.v 0), none⟩,
   ⟨some 3, .cp (.k (.bool false)), none⟩] [1, 2])
 (.seq (.reg [
    ⟨some 4, .ld false 1 (.v 1), none⟩,
    ⟨some 5, .fa 0 (.v 2), none⟩,
    ⟨some 6, .ld false 1 (.o 5 2), none⟩,
    ⟨some 7, .call 39 [.v 4, .v 6], none⟩,
    ⟨some 8, .not (.v 7), none⟩,
    ⟨some 3, .cp (.v 8), none⟩] [3])
  (.ret))
def rs42 : List RV := [.t 3]
theorem chk42 : chkFn Tryz.prog Tryz.f42 2 pc42 rs42 = true := by kernel_rfl
theorem rule42 {L : World → Prop} (hL : ∀ w w', L w → Below w.heap.size w w' → L w') {ds : List D} {r : D} (hr0 : aliasOf r = none) (hlen : ds.length = 2) (hp : ds.all (fun d => (aliasOf d).isNone) = true)
    (h : wC (Con Tryz.prog L) pc42 (retQ rs42 r) (initE 0 ds)) : Con Tryz.prog L 42 ds r :=
  con_chk hL Tryz.func42 chk42 hr0 hlen hp (wC_sound h)

/-- klippe/column.Check -/
def pc45 : PC := .seq (.reg [
   ⟨some 2, .cp (.k (.int .i64 0)), none⟩] [0])
 (.seq (.blk 0 (.seq (.reg [
      ⟨some 7, .cp (.v 0), none⟩,
      ⟨some 8, .len (.v 7), none⟩,
      ⟨some 9, .ci .eql (.v 8) (.k (.int .i64 0)), none⟩,
      ⟨some 6, .cp (.v 9), none⟩] [0, 6])
    (.cnd (.v 6) (.seq (.reg [
        ⟨some 2, .cp (.k (.int .i64 13)), none⟩] [2])
      (.ret))
     (.seq (.reg [
        ⟨some 11, .cp (.v 0), none⟩,
        ⟨some 12, .len (.v 11), none⟩,
        ⟨some 13, .ci .gtr (.v 12) (.k (.int .i64 60)), none⟩,
        ⟨some 10, .cp (.v 13), none⟩] [0, 10])
      (.cnd (.v 10) (.seq (.reg [
          ⟨some 2, .cp (.k (.int .i64 4)), none⟩] [2])
        (.ret))
       (.skip))))))
  (.seq (.seq (.reg [
      ⟨some 14, .cp (.v 0), none⟩,
      ⟨some 15, .len (.v 14), none⟩,
      ⟨some 16, .cp (.k (.int .i64 0)), none⟩] [0, 14, 15, 16])
    (.blk 1 (.loop (.seq (.reg [
         ⟨some 17, .ci .lss (.v 16) (.v 15), none⟩] [0, 14, 15, 16, 17])
       (.seq (.cnd (.v 17) (.skip)
         (.exit 1))
        (.seq (.blk 2 (.seq (.reg [
             ⟨some 18, .cp (.v 16), none⟩,
             ⟨some 19, .ia 3 (.v 14) (.v 16), none⟩,
             ⟨some 20, .ld true 3 (.v 19), none⟩,
             ⟨some 4, .alloc [.str [], .str [], .str []], none⟩,
             ⟨some 3, .cp (.v 18), none⟩,
             ⟨none, .st 3 (.v 4) (.v 20), none⟩] [0, 3, 4, 14, 15, 16])
           (.seq (.seq (.reg [
               ⟨some 21, .ld true 3 (.v 4), none⟩,
               ⟨some 22, .call 77 [.v 21], none⟩,
               ⟨some 5, .cp (.v 22), none⟩] [0, 3, 4, 5, 14, 15, 16])
             (.seq (.reg [
                ⟨some 23, .cp (.v 5), none⟩,
                ⟨some 24, .ci .neq (.v 23) (.k (.int .i64 0)), none⟩] [0, 3, 4, 5, 14, 15, 16, 24])
              (.cnd (.v 24) (.seq (.reg [
                  ⟨some 25, .cp (.v 5), none⟩,
                  ⟨some 2, .cp (.v 25), none⟩] [2])
                (.ret))
               (.skip))))
            (.blk 3 (.seq (.reg [
                ⟨some 27, .fa 0 (.v 4), none⟩,
                ⟨some 28, .ld false 1 (.o 27 4), none⟩,
                ⟨some 29, .call 68 [.v 28], none⟩,
                ⟨some 30, .not (.v 29), none⟩,
                ⟨some 26, .cp (.v 30), none⟩] [0, 3, 4, 14, 15, 16, 26])
              (.cnd (.v 26) (.seq (.reg [
                  ⟨some 2, .cp (.k (.int .i64 8)), none⟩] [2])
                (.ret))
               (.seq (.reg [
                  ⟨some 32, .cp (.v 0), none⟩,
                  ⟨some 33, .cp (.v 3), none⟩,
                  ⟨some 34, .slc 3 (.v 32) none (some (.v 33)), none⟩,
                  ⟨some 35, .fa 0 (.v 4), none⟩,
                  ⟨some 36, .ld false 1 (.o 35 4), none⟩,
                  ⟨some 37, .call 56 [.v 34, .v 36], none⟩,
                  ⟨some 38, .ci .geq (.v 37) (.k (.int .i64 0)), none⟩,
                  ⟨some 31, .cp (.v 38), none⟩] [0, 4, 14, 15, 16, 31])
                (.cnd (.v 31) (.seq (.reg [
                    ⟨some 2, .cp (.k (.int .i64 9)), none⟩] [2])
                  (.ret))
                 (.seq (.reg [
                    ⟨some 40, .fa 1 (.v 4), none⟩,
                    ⟨some 41, .ld false 1 (.o 40 4), none⟩,
                    ⟨some 42, .call 78 [.v 41], none⟩,
                    ⟨some 43, .ci .lss (.v 42) (.k (.int .i64 0)), none⟩,
                    ⟨some 39, .cp (.v 43), none⟩] [0, 4, 14, 15, 16, 39])
                  (.cnd (.v 39) (.seq (.reg [
                      ⟨some 2, .cp (.k (.int .i64 3)), none⟩] [2])
                    (.ret))
                   (.seq (.reg [
                      ⟨some 45, .fa 2 (.v 4), none⟩,
                      ⟨some 46, .ld false 1 (.o 45 4), none⟩,
                      ⟨some 47, .sc .neq (.v 46) (.k (.str [])), none⟩,
                      ⟨some 48, .cp (.v 47), none⟩,
                      ⟨some 49, .fa 2 (.v 4), (some (48, true))⟩,
                      ⟨some 50, .ld false 1 (.o 49 4), (some (48, true))⟩,
                      ⟨some 51, .fa 1 (.v 4), (some (48, true))⟩,
                      ⟨some 52, .ld false 1 (.o 51 4), (some (48, true))⟩,
                      ⟨some 53, .call 79 [.v 50, .v 52], (some (48, true))⟩,
                      ⟨some 54, .ci .lss (.v 53) (.k (.int .i64 0)), (some (48, true))⟩,
                      ⟨some 55, .pick (.v 48) (.v 54) (.k (.bool false)), none⟩,
                      ⟨some 44, .cp (.v 55), none⟩] [0, 14, 15, 16, 44])
                    (.cnd (.v 44) (.seq (.reg [
                        ⟨some 2, .cp (.k (.int .i64 6)), none⟩] [2])
                      (.ret))
                     (.skip)))))))))))))
         (.reg [
           ⟨some 56, .ari .add .i64 (.v 16) (.k (.int .i64 1)), none⟩,
           ⟨some 16, .cp (.v 56), none⟩] [0, 14, 15, 16])))))))
   (.seq (.reg [
      ⟨some 2, .cp (.k (.int .i64 0)), none⟩] [2])
    (.ret))))
def rs45 : List RV := [.t 2]
theorem chk45 : chkFn Tryz.prog Tryz.f45 1 pc45 rs45 = true := by kernel_rfl
theorem rule45 {L : World → Prop} (hL : ∀ w w', L w → Below w.heap.size w w' → L w') {ds : List D} {r : D} (hr0 : aliasOf r = none) (hlen : ds.length = 1) (hp : ds.all (fun d => (aliasOf d).isNone) = true)
    (h : wC (Con Tryz.prog L) pc45 (retQ rs45 r) (initE 0 ds)) : Con Tryz.prog L 45 ds r :=
  con_chk hL Tryz.func45 chk45 hr0 hlen hp (wC_sound h)

/-- klippe/klippelaw22.example -/
def pc48 : PC := .seq (.reg [
   ⟨some 0, .nil 39, none⟩] [])
 (.seq (.reg [
    ⟨some 1, .bld [.str [], .str [], .str []] [(0, 1, .k (.str [65])), (1, 1, .k (.str [49])), (2, 1, .k (.str [50]))], none⟩,
    ⟨some 2, .bld [.str [], .str [], .str []] [(0, 1, .k (.str [66])), (1, 1, .k (.str [48])), (2, 1, .k (.str [51]))], none⟩,
    ⟨some 3, .bld [.str [], .str [], .str []] [(0, 1, .k (.str [67])), (1, 1, .k (.str [49]))], none⟩,
    ⟨some 4, .bldS 39 [.str [], .str [], .str []] 3 [(0, 3, .v 1), (3, 3, .v 2), (6, 3, .v 3)], none⟩,
    ⟨some 0, .tk 4, none⟩] [0])
  (.ret))
def rs48 : List RV := [.t 0]
theorem chk48 : chkFn Tryz.prog Tryz.f48 0 pc48 rs48 = true := by kernel_rfl
theorem rule48 {L : World → Prop} (hL : ∀ w w', L w → Below w.heap.size w w' → L w') {ds : List D} {r : D} (hr0 : aliasOf r = none) (hlen : ds.length = 0) (hp : ds.all (fun d => (aliasOf d).isNone) = true)
    (h : wC (Con Tryz.prog L) pc48 (retQ rs48 r) (initE 0 ds)) : Con Tryz.prog L 48 ds r :=
  con_chk hL Tryz.func48 chk48 hr0 hlen hp (wC_sound h)

/-- slices.Clone[[]uint8,uint8] -/
def pc49 : PC := .seq (.reg [
   ⟨some 2, .nil 5, none⟩] [0])
 (.seq (.seq (.cus [3, 4] (nilT 0 4 [0]))
   (.cnd (.v 4) (.seq (.reg [
       ⟨some 2, .nil 5, none⟩] [2])
     (.ret))
    (.skip)))
  (.seq (.reg [
     ⟨some 5, .bldS 5 [.int .u8 0] 0 [], none⟩,
     ⟨some 6, .cp (.v 0), none⟩,
     ⟨some 7, .app 5 1 1 (.v 5) (.v 6), none⟩,
     ⟨some 2, .tk 7, none⟩] [2])
   (.ret)))
def rs49 : List RV := [.t 2]
theorem chk49 : chkFnR Tryz.prog Tryz.f49 1 pc49 rs49 = true := by kernel_rfl
theorem rule49 {L : World → Prop} (hL : ∀ w w', L w → Below w.heap.size w w' → L w') (hbk : ∀ q ∈ pc49.backs, IsBack Tryz.prog q.1 q.2.1 q.2.2) (hcu : ∀ c, Tryz.f49.body = some c → ∀ q ∈ cusL c pc49, CusOk Tryz.prog L q.1 q.2.1 q.2.2) {ds : List D} {r : D} (hr0 : aliasOf r = none) (hlen : ds.length = 1) (hp : ds.all (fun d => (aliasOf d).isNone) = true)
    (h : wC (Con Tryz.prog L) pc49 (retQ rs49 r) (initE 0 ds)) : Con Tryz.prog L 49 ds r :=
  con_chkR hL Tryz.func49 chk49 hbk hcu hr0 hlen hp (wC_sound h)

/-- klippe/klippelaw22.Names -/
def pc50 : PC := .seq (.reg [
   ⟨some 0, .nil 9, none⟩] [])
 (.seq (.reg [
    ⟨some 1, .bldS 9 [.str []] 6 [(0, 1, .k (.str [65])), (1, 1, .k (.str [66])), (2, 1, .k (.str [67])), (3, 1, .k (.str [68])), (4, 1, .k (.str [69])), (5, 1, .k (.str [70]))], none⟩,
    ⟨some 0, .tk 1, none⟩] [0])
  (.ret))
def rs50 : List RV := [.t 0]
theorem chk50 : chkFn Tryz.prog Tryz.f50 0 pc50 rs50 = true := by kernel_rfl
theorem rule50 {L : World → Prop} (hL : ∀ w w', L w → Below w.heap.size w w' → L w') {ds : List D} {r : D} (hr0 : aliasOf r = none) (hlen : ds.length = 0) (hp : ds.all (fun d => (aliasOf d).isNone) = true)
    (h : wC (Con Tryz.prog L) pc50 (retQ rs50 r) (initE 0 ds)) : Con Tryz.prog L 50 ds r :=
  con_chk hL Tryz.func50 chk50 hr0 hlen hp (wC_sound h)

/-- slices.ContainsFunc[[]klippe/api.Layer,klippe/api.Layer] -/
def pc51 : PC := .seq (.reg [
   ⟨some 4, .cp (.k (.bool false)), none⟩] [0, 1])
 (.seq (.reg [
    ⟨some 5, .cp (.v 0), none⟩,
    ⟨some 6, .cp (.v 1), none⟩,
    ⟨some 7, .call 58 [.v 5, .v 6], none⟩,
    ⟨some 8, .ci .geq (.v 7) (.k (.int .i64 0)), none⟩,
    ⟨some 4, .cp (.v 8), none⟩] [4])
  (.ret))
def rs51 : List RV := [.t 4]
theorem chk51 : chkFn Tryz.prog Tryz.f51 2 pc51 rs51 = true := by kernel_rfl
theorem rule51 {L : World → Prop} (hL : ∀ w w', L w → Below w.heap.size w w' → L w') {ds : List D} {r : D} (hr0 : aliasOf r = none) (hlen : ds.length = 2) (hp : ds.all (fun d => (aliasOf d).isNone) = true)
    (h : wC (Con Tryz.prog L) pc51 (retQ rs51 r) (initE 0 ds)) : Con Tryz.prog L 51 ds r :=
  con_chk hL Tryz.func51 chk51 hr0 hlen hp (wC_sound h)

/-- klippe/klippelaw22.Make$1 -/
def pc52 : PC := .seq (.reg [
   ⟨some 2, .bx 3 (.v 0), none⟩,
   ⟨some 3, .cp (.k (.bool false)), none⟩] [1, 2])
 (.seq (.reg [
    ⟨some 4, .fa 0 (.v 2), none⟩,
    ⟨some 5, .ld false 1 (.o 4 2), none⟩,
    ⟨some 6, .ld false 1 (.v 1), none⟩,
    ⟨some 7, .sc .eql (.v 5) (.v 6), none⟩,
    ⟨some 3, .cp (.v 7), none⟩] [3])
  (.ret))
def rs52 : List RV := [.t 3]
theorem chk52 : chkFn Tryz.prog Tryz.f52 2 pc52 rs52 = true := by kernel_rfl
theorem rule52 {L : World → Prop} (hL : ∀ w w', L w → Below w.heap.size w w' → L w') {ds : List D} {r : D} (hr0 : aliasOf r = none) (hlen : ds.length = 2) (hp : ds.all (fun d => (aliasOf d).isNone) = true)
    (h : wC (Con Tryz.prog L) pc52 (retQ rs52 r) (initE 0 ds)) : Con Tryz.prog L 52 ds r :=
  con_chk hL Tryz.func52 chk52 hr0 hlen hp (wC_sound h)

/-- slices.Backward[[]klippe/api.Layer,klippe/api.Layer]$1 -/
def pc53 : PC := .seq (.reg [
   ⟨some 4, .ld false 1 (.v 1), none⟩,
   ⟨some 5, .len (.v 4), none⟩,
   ⟨some 6, .ari .sub .i64 (.v 5) (.k (.int .i64 1)), none⟩,
   ⟨some 3, .cp (.v 6), none⟩] [0, 1, 3])
 (.blk 0 (.loop (.seq (.seq (.reg [
       ⟨some 7, .cp (.v 3), none⟩,
       ⟨some 8, .ci .geq (.v 7) (.k (.int .i64 0)), none⟩] [0, 1, 3, 8])
     (.cnd (.v 8) (.skip)
      (.exit 0)))
    (.seq (.blk 1 (.seq (.reg [
         ⟨some 11, .cp (.v 0), none⟩,
         ⟨some 12, .cp (.v 3), none⟩,
         ⟨some 13, .ld false 1 (.v 1), none⟩,
         ⟨some 14, .cp (.v 3), none⟩,
         ⟨some 15, .ia 3 (.v 13) (.v 14), none⟩,
         ⟨some 16, .ld true 3 (.v 15), none⟩,
         ⟨some 17, .callV 11 [.v 12, .v 16], none⟩,
         ⟨some 18, .not (.v 17), none⟩] [0, 1, 3, 18])
       (.cnd (.v 18) (.ret)
        (.skip))))
     (.reg [
       ⟨some 9, .cp (.v 3), none⟩,
       ⟨some 10, .ari .sub .i64 (.v 9) (.k (.int .i64 1)), none⟩,
       ⟨some 3, .cp (.v 10), none⟩] [0, 1, 3])))))
def rs53 : List RV := []
theorem chk53 : chkFn Tryz.prog Tryz.f53 2 pc53 rs53 = true := by kernel_rfl
theorem rule53 {L : World → Prop} (hL : ∀ w w', L w → Below w.heap.size w w' → L w') {ds : List D} {r : D} (hr0 : aliasOf r = none) (hlen : ds.length = 2) (hp : ds.all (fun d => (aliasOf d).isNone) = true)
    (h : wC (Con Tryz.prog L) pc53 (retQ rs53 r) (initE 0 ds)) : Con Tryz.prog L 53 ds r :=
  con_chk hL Tryz.func53 chk53 hr0 hlen hp (wC_sound h)

/-- klippe/klipperef02.Fraction -/
def pc54 : PC := .seq (.reg [
   ⟨some 4, .cp (.k (.str [])), none⟩] [0, 1])
 (.seq (.seq (.reg [
     ⟨some 6, .cp (.v 0), none⟩,
     ⟨some 7, .lenS (.v 6), none⟩,
     ⟨some 8, .ci .leq (.v 7) (.k (.int .i64 9)), none⟩,
     ⟨some 9, .cp (.v 8), none⟩,
     ⟨some 10, .cp (.v 1), (some (9, true))⟩,
     ⟨some 11, .lenS (.v 10), (some (9, true))⟩,
     ⟨some 12, .ci .leq (.v 11) (.k (.int .i64 9)), (some (9, true))⟩,
     ⟨some 13, .pick (.v 9) (.v 12) (.k (.bool false)), none⟩] [0, 1, 13])
   (.cnd (.v 13) (.seq (.reg [
       ⟨some 14, .cp (.v 0), none⟩,
       ⟨some 15, .cp (.v 1), none⟩,
       ⟨some 16, .call 80 [.v 14, .v 15], none⟩,
       ⟨some 4, .cp (.v 16), none⟩] [4])
     (.ret))
    (.skip)))
  (.seq (.seq (.reg [
      ⟨some 17, .cp (.v 1), none⟩,
      ⟨some 18, .call 81 [.v 17], none⟩,
      ⟨some 19, .ci .lss (.v 18) (.k (.int .i64 0)), none⟩] [0, 1, 19])
    (.cnd (.v 19) (.reg [
       ⟨some 20, .cp (.v 0), none⟩,
       ⟨some 21, .call 82 [.v 20], none⟩,
       ⟨some 22, .cp (.v 1), none⟩,
       ⟨some 23, .call 82 [.v 22], none⟩,
       ⟨some 0, .cp (.v 21), none⟩,
       ⟨some 1, .cp (.v 23), none⟩] [0, 1])
     (.skip)))
   (.seq (.reg [
      ⟨some 24, .cp (.v 0), none⟩,
      ⟨some 25, .cp (.v 1), none⟩,
      ⟨some 26, .call 83 [.v 24, .v 25], none⟩,
      ⟨some 5, .cp (.v 26), none⟩] [0, 1, 5])
    (.seq (.reg [
       ⟨some 28, .cp (.v 0), none⟩,
       ⟨some 29, .cp (.v 5), none⟩,
       ⟨some 30, .call 84 [.v 28, .v 29], none⟩,
       ⟨some 27, .cp (.v 30), none⟩,
       ⟨some 31, .ext 27 0, none⟩,
       ⟨some 32, .ext 27 1, none⟩,
       ⟨some 0, .cp (.v 31), none⟩] [0, 1, 5])
     (.seq (.reg [
        ⟨some 34, .cp (.v 1), none⟩,
        ⟨some 35, .cp (.v 5), none⟩,
        ⟨some 36, .call 84 [.v 34, .v 35], none⟩,
        ⟨some 33, .cp (.v 36), none⟩,
        ⟨some 37, .ext 33 0, none⟩,
        ⟨some 38, .ext 33 1, none⟩,
        ⟨some 1, .cp (.v 37), none⟩] [0, 1])
      (.seq (.seq (.reg [
          ⟨some 39, .cp (.v 1), none⟩,
          ⟨some 40, .sc .eql (.v 39) (.k (.str [49])), none⟩] [0, 1, 40])
        (.cnd (.v 40) (.seq (.reg [
            ⟨some 41, .cp (.v 0), none⟩,
            ⟨some 4, .cp (.v 41), none⟩] [4])
          (.ret))
         (.skip)))
       (.seq (.reg [
          ⟨some 42, .cp (.v 0), none⟩,
          ⟨some 43, .cat (.v 42) (.k (.str [47])), none⟩,
          ⟨some 44, .cp (.v 1), none⟩,
          ⟨some 45, .cat (.v 43) (.v 44), none⟩,
          ⟨some 4, .cp (.v 45), none⟩] [4])
        (.ret))))))))
def rs54 : List RV := [.t 4]
theorem chk54 : chkFn Tryz.prog Tryz.f54 2 pc54 rs54 = true := by kernel_rfl
theorem rule54 {L : World → Prop} (hL : ∀ w w', L w → Below w.heap.size w w' → L w') {ds : List D} {r : D} (hr0 : aliasOf r = none) (hlen : ds.length = 2) (hp : ds.all (fun d => (aliasOf d).isNone) = true)
    (h : wC (Con Tryz.prog L) pc54 (retQ rs54 r) (initE 0 ds)) : Con Tryz.prog L 54 ds r :=
  con_chk hL Tryz.func54 chk54 hr0 hlen hp (wC_sound h)

/-- klippe/klipperef01.Of -/
def pc55 : PC := .seq (.reg [
   ⟨some 2, .cp (.k (.str [])), none⟩] [0])
 (.seq (.reg [
    ⟨some 3, .cp (.v 0), none⟩,
    ⟨some 4, .call 85 [.v 3], none⟩,
    ⟨some 2, .cp (.v 4), none⟩] [2])
  (.ret))
def rs55 : List RV := [.t 2]
theorem chk55 : chkFn Tryz.prog Tryz.f55 1 pc55 rs55 = true := by kernel_rfl
theorem rule55 {L : World → Prop} (hL : ∀ w w', L w → Below w.heap.size w w' → L w') {ds : List D} {r : D} (hr0 : aliasOf r = none) (hlen : ds.length = 1) (hp : ds.all (fun d => (aliasOf d).isNone) = true)
    (h : wC (Con Tryz.prog L) pc55 (retQ rs55 r) (initE 0 ds)) : Con Tryz.prog L 55 ds r :=
  con_chk hL Tryz.func55 chk55 hr0 hlen hp (wC_sound h)

/-- klippe/column.at -/
def pc56 : PC := .seq (.reg [
   ⟨some 3, .bx 1 (.v 1), none⟩,
   ⟨some 4, .cp (.k (.int .i64 0)), none⟩] [0, 3])
 (.seq (.reg [
    ⟨some 5, .cp (.v 0), none⟩,
    ⟨some 6, .mkf 86 [.v 3], none⟩,
    ⟨some 7, .call 58 [.v 5, .v 6], none⟩,
    ⟨some 4, .cp (.v 7), none⟩] [4])
  (.ret))
def rs56 : List RV := [.t 4]
theorem chk56 : chkFn Tryz.prog Tryz.f56 2 pc56 rs56 = true := by kernel_rfl
theorem rule56 {L : World → Prop} (hL : ∀ w w', L w → Below w.heap.size w w' → L w') {ds : List D} {r : D} (hr0 : aliasOf r = none) (hlen : ds.length = 2) (hp : ds.all (fun d => (aliasOf d).isNone) = true)
    (h : wC (Con Tryz.prog L) pc56 (retQ rs56 r) (initE 0 ds)) : Con Tryz.prog L 56 ds r :=
  con_chk hL Tryz.func56 chk56 hr0 hlen hp (wC_sound h)

/-- slices.IndexFunc[[]klippe/api.Layer,klippe/api.Layer] -/
def pc58 : PC := .seq (.reg [
   ⟨some 4, .cp (.k (.int .i64 0)), none⟩] [0, 1])
 (.seq (.seq (.reg [
     ⟨some 6, .cp (.v 0), none⟩,
     ⟨some 7, .len (.v 6), none⟩,
     ⟨some 8, .cp (.k (.int .i64 0)), none⟩] [0, 1, 7, 8])
   (.blk 0 (.loop (.seq (.reg [
        ⟨some 9, .ci .lss (.v 8) (.v 7), none⟩] [0, 1, 7, 8, 9])
      (.seq (.cnd (.v 9) (.skip)
        (.exit 0))
       (.seq (.blk 1 (.seq (.reg [
            ⟨some 10, .cp (.v 8), none⟩,
            ⟨some 5, .cp (.v 10), none⟩] [0, 1, 5, 7, 8])
          (.seq (.reg [
             ⟨some 11, .cp (.v 1), none⟩,
             ⟨some 12, .cp (.v 0), none⟩,
             ⟨some 13, .cp (.v 5), none⟩,
             ⟨some 14, .ia 3 (.v 12) (.v 13), none⟩,
             ⟨some 15, .ld true 3 (.v 14), none⟩,
             ⟨some 16, .callV 11 [.v 15], none⟩] [0, 1, 5, 7, 8, 16])
           (.cnd (.v 16) (.seq (.reg [
               ⟨some 17, .cp (.v 5), none⟩,
               ⟨some 4, .cp (.v 17), none⟩] [4])
             (.ret))
            (.skip)))))
        (.reg [
          ⟨some 18, .ari .add .i64 (.v 8) (.k (.int .i64 1)), none⟩,
          ⟨some 8, .cp (.v 18), none⟩] [0, 1, 7, 8])))))))
  (.seq (.reg [
     ⟨some 4, .cp (.k (.int .i64 (-1))), none⟩] [4])
   (.ret)))
def rs58 : List RV := [.t 4]
theorem chk58 : chkFn Tryz.prog Tryz.f58 2 pc58 rs58 = true := by kernel_rfl
theorem rule58 {L : World → Prop} (hL : ∀ w w', L w → Below w.heap.size w w' → L w') {ds : List D} {r : D} (hr0 : aliasOf r = none) (hlen : ds.length = 2) (hp : ds.all (fun d => (aliasOf d).isNone) = true)
    (h : wC (Con Tryz.prog L) pc58 (retQ rs58 r) (initE 0 ds)) : Con Tryz.prog L 58 ds r :=
  con_chk hL Tryz.func58 chk58 hr0 hlen hp (wC_sound h)

/-- klippe/klippelaw22.index$1 -/
def pc59 : PC := .seq (.reg [
   ⟨some 2, .bx 3 (.v 0), none⟩,
   ⟨some 3, .cp (.k (.bool false)), none⟩] [1, 2])
 (.seq (.reg [
    ⟨some 4, .fa 0 (.v 2), none⟩,
    ⟨some 5, .ld false 1 (.o 4 2), none⟩,
    ⟨some 6, .ld false 1 (.v 1), none⟩,
    ⟨some 7, .sc .eql (.v 5) (.v 6), none⟩,
    ⟨some 3, .cp (.v 7), none⟩] [3])
  (.ret))
def rs59 : List RV := [.t 3]
theorem chk59 : chkFn Tryz.prog Tryz.f59 2 pc59 rs59 = true := by kernel_rfl
theorem rule59 {L : World → Prop} (hL : ∀ w w', L w → Below w.heap.size w w' → L w') {ds : List D} {r : D} (hr0 : aliasOf r = none) (hlen : ds.length = 2) (hp : ds.all (fun d => (aliasOf d).isNone) = true)
    (h : wC (Con Tryz.prog L) pc59 (retQ rs59 r) (initE 0 ds)) : Con Tryz.prog L 59 ds r :=
  con_chk hL Tryz.func59 chk59 hr0 hlen hp (wC_sound h)

/-- klippe/column.both -/
def pc60 : PC := .seq (.reg [
   ⟨some 6, .cp (.k (.int .i64 0)), none⟩,
   ⟨some 7, .cp (.k (.int .i64 0)), none⟩,
   ⟨some 8, .cp (.k (.int .i64 0)), none⟩] [0, 1, 2])
 (.seq (.seq (.reg [
     ⟨some 10, .cp (.v 0), none⟩,
     ⟨some 11, .call 45 [.v 10], none⟩,
     ⟨some 9, .cp (.v 11), none⟩] [0, 1, 2, 9])
   (.seq (.reg [
      ⟨some 12, .cp (.v 9), none⟩,
      ⟨some 13, .ci .neq (.v 12) (.k (.int .i64 0)), none⟩] [0, 1, 2, 9, 13])
    (.cnd (.v 13) (.seq (.reg [
        ⟨some 14, .cp (.v 9), none⟩,
        ⟨some 6, .cp (.k (.int .i64 0)), none⟩,
        ⟨some 7, .cp (.k (.int .i64 0)), none⟩,
        ⟨some 8, .cp (.v 14), none⟩] [6, 7, 8])
      (.ret))
     (.skip))))
  (.seq (.reg [
     ⟨some 15, .cp (.v 0), none⟩,
     ⟨some 16, .cp (.v 1), none⟩,
     ⟨some 17, .call 56 [.v 15, .v 16], none⟩,
     ⟨some 18, .cp (.v 0), none⟩,
     ⟨some 19, .cp (.v 2), none⟩,
     ⟨some 20, .call 56 [.v 18, .v 19], none⟩,
     ⟨some 6, .cp (.v 17), none⟩,
     ⟨some 7, .cp (.v 20), none⟩] [6, 7])
   (.seq (.seq (.reg [
       ⟨some 21, .cp (.v 6), none⟩,
       ⟨some 22, .ci .lss (.v 21) (.k (.int .i64 0)), none⟩,
       ⟨some 23, .cp (.v 22), none⟩,
       ⟨some 24, .cp (.v 7), (some (23, false))⟩,
       ⟨some 25, .ci .lss (.v 24) (.k (.int .i64 0)), (some (23, false))⟩,
       ⟨some 26, .pick (.v 23) (.k (.bool true)) (.v 25), none⟩] [6, 7, 26])
     (.cnd (.v 26) (.seq (.reg [
         ⟨some 6, .cp (.k (.int .i64 0)), none⟩,
         ⟨some 7, .cp (.k (.int .i64 0)), none⟩,
         ⟨some 8, .cp (.k (.int .i64 10)), none⟩] [6, 7, 8])
       (.ret))
      (.skip)))
    (.seq (.reg [
       ⟨some 27, .cp (.v 6), none⟩,
       ⟨some 28, .cp (.v 7), none⟩,
       ⟨some 6, .cp (.v 27), none⟩,
       ⟨some 7, .cp (.v 28), none⟩,
       ⟨some 8, .cp (.k (.int .i64 0)), none⟩] [6, 7, 8])
     (.ret)))))
def rs60 : List RV := [.t 6, .t 7, .t 8]
theorem chk60 : chkFn Tryz.prog Tryz.f60 3 pc60 rs60 = true := by kernel_rfl
theorem rule60 {L : World → Prop} (hL : ∀ w w', L w → Below w.heap.size w w' → L w') {ds : List D} {r : D} (hr0 : aliasOf r = none) (hlen : ds.length = 3) (hp : ds.all (fun d => (aliasOf d).isNone) = true)
    (h : wC (Con Tryz.prog L) pc60 (retQ rs60 r) (initE 0 ds)) : Con Tryz.prog L 60 ds r :=
  con_chk hL Tryz.func60 chk60 hr0 hlen hp (wC_sound h)

/-- klippe/rational.Add -/
def pc61 : PC := .seq (.reg [
   ⟨some 4, .cp (.k (.str [])), none⟩] [0, 1])
 (.seq (.seq (.reg [
     ⟨some 15, .cp (.v 0), none⟩,
     ⟨some 16, .sc .eql (.v 15) (.k (.str [48])), none⟩] [0, 1, 16])
   (.cnd (.v 16) (.seq (.reg [
       ⟨some 17, .cp (.v 1), none⟩,
       ⟨some 4, .cp (.v 17), none⟩] [4])
     (.ret))
    (.skip)))
  (.seq (.seq (.reg [
      ⟨some 18, .cp (.v 1), none⟩,
      ⟨some 19, .sc .eql (.v 18) (.k (.str [48])), none⟩] [0, 1, 19])
    (.cnd (.v 19) (.seq (.reg [
        ⟨some 20, .cp (.v 0), none⟩,
        ⟨some 4, .cp (.v 20), none⟩] [4])
      (.ret))
     (.skip)))
   (.seq (.seq (.reg [
       ⟨some 22, .cp (.v 0), none⟩,
       ⟨some 23, .call 87 [.v 22], none⟩,
       ⟨some 21, .cp (.v 23), none⟩,
       ⟨some 24, .ext 21 0, none⟩,
       ⟨some 25, .ext 21 1, none⟩,
       ⟨some 26, .ext 21 2, none⟩,
       ⟨some 5, .cp (.v 24), none⟩,
       ⟨some 6, .cp (.v 25), none⟩,
       ⟨some 7, .cp (.v 26), none⟩] [0, 1, 5, 6, 7])
     (.seq (.reg [
        ⟨some 27, .cp (.v 7), none⟩] [0, 1, 5, 6, 27])
      (.cnd (.v 27) (.seq (.reg [
          ⟨some 29, .cp (.v 1), none⟩,
          ⟨some 30, .call 87 [.v 29], none⟩,
          ⟨some 28, .cp (.v 30), none⟩,
          ⟨some 31, .ext 28 0, none⟩,
          ⟨some 32, .ext 28 1, none⟩,
          ⟨some 33, .ext 28 2, none⟩,
          ⟨some 8, .cp (.v 31), none⟩,
          ⟨some 9, .cp (.v 32), none⟩,
          ⟨some 10, .cp (.v 33), none⟩] [0, 1, 5, 6, 8, 9, 10])
        (.seq (.reg [
           ⟨some 34, .cp (.v 10), none⟩] [0, 1, 5, 6, 8, 9, 34])
         (.cnd (.v 34) (.seq (.reg [
             ⟨some 35, .cp (.v 5), none⟩,
             ⟨some 36, .cp (.v 9), none⟩,
             ⟨some 37, .ari .mul .i64 (.v 35) (.v 36), none⟩,
             ⟨some 38, .cp (.v 8), none⟩,
             ⟨some 39, .cp (.v 6), none⟩,
             ⟨some 40, .ari .mul .i64 (.v 38) (.v 39), none⟩,
             ⟨some 41, .ari .add .i64 (.v 37) (.v 40), none⟩,
             ⟨some 42, .cp (.v 6), none⟩,
             ⟨some 43, .cp (.v 9), none⟩,
             ⟨some 44, .ari .mul .i64 (.v 42) (.v 43), none⟩,
             ⟨some 45, .call 88 [.v 41, .v 44], none⟩,
             ⟨some 4, .cp (.v 45), none⟩] [4])
           (.ret))
          (.skip))))
       (.skip))))
    (.seq (.reg [
       ⟨some 47, .cp (.v 0), none⟩,
       ⟨some 48, .call 89 [.v 47], none⟩,
       ⟨some 46, .cp (.v 48), none⟩,
       ⟨some 49, .ext 46 0, none⟩,
       ⟨some 50, .ext 46 1, none⟩,
       ⟨some 11, .cp (.v 49), none⟩,
       ⟨some 12, .cp (.v 50), none⟩] [1, 11, 12])
     (.seq (.reg [
        ⟨some 52, .cp (.v 1), none⟩,
        ⟨some 53, .call 89 [.v 52], none⟩,
        ⟨some 51, .cp (.v 53), none⟩,
        ⟨some 54, .ext 51 0, none⟩,
        ⟨some 55, .ext 51 1, none⟩,
        ⟨some 13, .cp (.v 54), none⟩,
        ⟨some 14, .cp (.v 55), none⟩] [11, 12, 13, 14])
      (.seq (.reg [
         ⟨some 56, .cp (.v 11), none⟩,
         ⟨some 57, .cp (.v 14), none⟩,
         ⟨some 58, .call 92 [.v 56, .v 57], none⟩,
         ⟨some 59, .cp (.v 13), none⟩,
         ⟨some 60, .cp (.v 12), none⟩,
         ⟨some 61, .call 92 [.v 59, .v 60], none⟩,
         ⟨some 62, .call 91 [.v 58, .v 61], none⟩,
         ⟨some 63, .cp (.v 12), none⟩,
         ⟨some 64, .cp (.v 14), none⟩,
         ⟨some 65, .call 92 [.v 63, .v 64], none⟩,
         ⟨some 66, .call 90 [.v 62, .v 65], none⟩,
         ⟨some 4, .cp (.v 66), none⟩] [4])
       (.ret)))))))
def rs61 : List RV := [.t 4]
theorem chk61 : chkFn Tryz.prog Tryz.f61 2 pc61 rs61 = true := by kernel_rfl
theorem rule61 {L : World → Prop} (hL : ∀ w w', L w → Below w.heap.size w w' → L w') {ds : List D} {r : D} (hr0 : aliasOf r = none) (hlen : ds.length = 2) (hp : ds.all (fun d => (aliasOf d).isNone) = true)
    (h : wC (Con Tryz.prog L) pc61 (retQ rs61 r) (initE 0 ds)) : Con Tryz.prog L 61 ds r :=
  con_chk hL Tryz.func61 chk61 hr0 hlen hp (wC_sound h)

/-- klippe/rational.Check -/
def pc62 : PC := .seq (.reg [
   ⟨some 2, .cp (.k (.int .i64 0)), none⟩] [0])
 (.seq (.reg [
    ⟨some 9, .cp (.v 0), none⟩,
    ⟨some 10, .call 93 [.v 9, .k (.str [47])], none⟩,
    ⟨some 8, .cp (.v 10), none⟩,
    ⟨some 11, .ext 8 0, none⟩,
    ⟨some 12, .ext 8 1, none⟩,
    ⟨some 13, .ext 8 2, none⟩,
    ⟨some 3, .cp (.v 11), none⟩,
    ⟨some 4, .cp (.v 12), none⟩,
    ⟨some 5, .cp (.v 13), none⟩] [3, 4, 5])
  (.seq (.seq (.reg [
      ⟨some 14, .cp (.v 3), none⟩,
      ⟨some 15, .call 94 [.v 14], none⟩,
      ⟨some 16, .ci .neq (.v 15) (.k (.int .i64 0)), none⟩] [3, 4, 5, 16])
    (.cnd (.v 16) (.seq (.reg [
        ⟨some 2, .cp (.k (.int .i64 2)), none⟩] [2])
      (.ret))
     (.skip)))
   (.seq (.seq (.reg [
       ⟨some 17, .cp (.v 5), none⟩,
       ⟨some 18, .not (.v 17), none⟩] [3, 4, 18])
     (.cnd (.v 18) (.seq (.reg [
         ⟨some 2, .cp (.k (.int .i64 0)), none⟩] [2])
       (.ret))
      (.skip)))
    (.seq (.reg [
       ⟨some 19, .cp (.v 3), none⟩,
       ⟨some 20, .cp (.v 4), none⟩,
       ⟨some 6, .cp (.v 19), none⟩,
       ⟨some 7, .cp (.v 20), none⟩] [6, 7])
     (.seq (.seq (.reg [
         ⟨some 21, .cp (.v 7), none⟩,
         ⟨some 22, .call 94 [.v 21], none⟩,
         ⟨some 23, .ci .neq (.v 22) (.k (.int .i64 0)), none⟩,
         ⟨some 24, .cp (.v 23), none⟩,
         ⟨some 25, .cp (.v 7), (some (24, false))⟩,
         ⟨some 26, .call 95 [.v 25, .k (.str [49])], (some (24, false))⟩,
         ⟨some 27, .ci .leq (.v 26) (.k (.int .i64 0)), (some (24, false))⟩,
         ⟨some 28, .pick (.v 24) (.k (.bool true)) (.v 27), none⟩,
         ⟨some 29, .cp (.v 28), none⟩,
         ⟨some 30, .cp (.v 6), (some (29, false))⟩,
         ⟨some 31, .sc .eql (.v 30) (.k (.str [48])), (some (29, false))⟩,
         ⟨some 32, .pick (.v 29) (.k (.bool true)) (.v 31), none⟩,
         ⟨some 33, .cp (.v 32), none⟩,
         ⟨some 34, .cp (.v 6), (some (33, false))⟩,
         ⟨some 35, .cp (.v 7), (some (33, false))⟩,
         ⟨some 36, .call 96 [.v 34, .v 35], (some (33, false))⟩,
         ⟨some 37, .sc .neq (.v 36) (.k (.str [49])), (some (33, false))⟩,
         ⟨some 38, .pick (.v 33) (.k (.bool true)) (.v 37), none⟩] [38])
       (.cnd (.v 38) (.seq (.reg [
           ⟨some 2, .cp (.k (.int .i64 2)), none⟩] [2])
         (.ret))
        (.skip)))
      (.seq (.reg [
         ⟨some 2, .cp (.k (.int .i64 0)), none⟩] [2])
       (.ret)))))))
def rs62 : List RV := [.t 2]
theorem chk62 : chkFn Tryz.prog Tryz.f62 1 pc62 rs62 = true := by kernel_rfl
theorem rule62 {L : World → Prop} (hL : ∀ w w', L w → Below w.heap.size w w' → L w') {ds : List D} {r : D} (hr0 : aliasOf r = none) (hlen : ds.length = 1) (hp : ds.all (fun d => (aliasOf d).isNone) = true)
    (h : wC (Con Tryz.prog L) pc62 (retQ rs62 r) (initE 0 ds)) : Con Tryz.prog L 62 ds r :=
  con_chk hL Tryz.func62 chk62 hr0 hlen hp (wC_sound h)

/-- klippe/klipperef02.brief -/
def pc63 : PC := .seq (.reg [
   ⟨some 2, .cp (.k (.int .i64 0)), none⟩,
   ⟨some 3, .cp (.k (.int .i64 0)), none⟩,
   ⟨some 4, .cp (.k (.bool false)), none⟩] [0, 2])
 (.seq (.seq (.reg [
     ⟨some 7, .cp (.v 0), none⟩,
     ⟨some 8, .lenS (.v 7), none⟩,
     ⟨some 9, .ci .gtr (.v 8) (.k (.int .i64 9)), none⟩] [0, 2, 9])
   (.cnd (.v 9) (.seq (.reg [
       ⟨some 2, .cp (.k (.int .i64 0)), none⟩,
       ⟨some 3, .cp (.k (.int .i64 0)), none⟩,
       ⟨some 4, .cp (.k (.bool false)), none⟩] [2, 3, 4])
     (.ret))
    (.skip)))
  (.seq (.reg [
     ⟨some 3, .cp (.k (.int .i64 1)), none⟩,
     ⟨some 5, .cp (.k (.int .i64 0)), none⟩,
     ⟨some 6, .cp (.k (.int .i64 1)), none⟩] [0, 2, 3, 5, 6])
   (.seq (.seq (.reg [
       ⟨some 10, .cp (.v 0), none⟩,
       ⟨some 11, .ix (.v 10) (.k (.int .i64 0)), none⟩,
       ⟨some 12, .ci .eql (.v 11) (.k (.int .u8 45)), none⟩] [0, 2, 3, 5, 6, 12])
     (.cnd (.v 12) (.reg [
        ⟨some 5, .cp (.k (.int .i64 1)), none⟩,
        ⟨some 6, .cp (.k (.int .i64 (-1))), none⟩] [0, 2, 3, 5, 6])
      (.skip)))
    (.seq (.blk 0 (.loop (.seq (.seq (.reg [
           ⟨some 13, .cp (.v 5), none⟩,
           ⟨some 14, .cp (.v 0), none⟩,
           ⟨some 15, .lenS (.v 14), none⟩,
           ⟨some 16, .ci .lss (.v 13) (.v 15), none⟩,
           ⟨some 17, .cp (.v 16), none⟩,
           ⟨some 18, .cp (.v 0), (some (17, true))⟩,
           ⟨some 19, .cp (.v 5), (some (17, true))⟩,
           ⟨some 20, .ix (.v 18) (.v 19), (some (17, true))⟩,
           ⟨some 21, .ci .neq (.v 20) (.k (.int .u8 47)), (some (17, true))⟩,
           ⟨some 22, .pick (.v 17) (.v 21) (.k (.bool false)), none⟩] [0, 2, 3, 5, 6, 22])
         (.cnd (.v 22) (.skip)
          (.exit 0)))
        (.blk 1 (.reg [
           ⟨some 23, .cp (.v 2), none⟩,
           ⟨some 24, .ari .mul .i64 (.k (.int .i64 10)) (.v 23), none⟩,
           ⟨some 25, .cp (.v 0), none⟩,
           ⟨some 26, .cp (.v 5), none⟩,
           ⟨some 27, .ix (.v 25) (.v 26), none⟩,
           ⟨some 28, .ari .sub .u8 (.v 27) (.k (.int .u8 48)), none⟩,
           ⟨some 29, .cvI .i64 (.v 28), none⟩,
           ⟨some 30, .ari .add .i64 (.v 24) (.v 29), none⟩,
           ⟨some 31, .cp (.v 5), none⟩,
           ⟨some 32, .ari .add .i64 (.v 31) (.k (.int .i64 1)), none⟩,
           ⟨some 2, .cp (.v 30), none⟩,
           ⟨some 5, .cp (.v 32), none⟩] [0, 2, 3, 5, 6])))))
     (.seq (.seq (.reg [
         ⟨some 33, .cp (.v 5), none⟩,
         ⟨some 34, .cp (.v 0), none⟩,
         ⟨some 35, .lenS (.v 34), none⟩,
         ⟨some 36, .ci .lss (.v 33) (.v 35), none⟩] [0, 2, 3, 5, 6, 36])
       (.cnd (.v 36) (.seq (.reg [
           ⟨some 3, .cp (.k (.int .i64 0)), none⟩] [0, 2, 3, 5, 6])
         (.seq (.reg [
            ⟨some 37, .cp (.v 5), none⟩,
            ⟨some 38, .ari .add .i64 (.v 37) (.k (.int .i64 1)), none⟩,
            ⟨some 5, .cp (.v 38), none⟩] [0, 2, 3, 5, 6])
          (.blk 2 (.loop (.seq (.seq (.reg [
                ⟨some 39, .cp (.v 5), none⟩,
                ⟨some 40, .cp (.v 0), none⟩,
                ⟨some 41, .lenS (.v 40), none⟩,
                ⟨some 42, .ci .lss (.v 39) (.v 41), none⟩] [0, 2, 3, 5, 6, 42])
              (.cnd (.v 42) (.skip)
               (.exit 2)))
             (.seq (.blk 3 (.reg [
                 ⟨some 45, .cp (.v 3), none⟩,
                 ⟨some 46, .ari .mul .i64 (.k (.int .i64 10)) (.v 45), none⟩,
                 ⟨some 47, .cp (.v 0), none⟩,
                 ⟨some 48, .cp (.v 5), none⟩,
                 ⟨some 49, .ix (.v 47) (.v 48), none⟩,
                 ⟨some 50, .ari .sub .u8 (.v 49) (.k (.int .u8 48)), none⟩,
                 ⟨some 51, .cvI .i64 (.v 50), none⟩,
                 ⟨some 52, .ari .add .i64 (.v 46) (.v 51), none⟩,
                 ⟨some 3, .cp (.v 52), none⟩] [0, 2, 3, 5, 6]))
              (.reg [
                ⟨some 43, .cp (.v 5), none⟩,
                ⟨some 44, .ari .add .i64 (.v 43) (.k (.int .i64 1)), none⟩,
                ⟨some 5, .cp (.v 44), none⟩] [0, 2, 3, 5, 6])))))))
        (.skip)))
      (.seq (.reg [
         ⟨some 53, .cp (.v 6), none⟩,
         ⟨some 54, .cp (.v 2), none⟩,
         ⟨some 55, .ari .mul .i64 (.v 53) (.v 54), none⟩,
         ⟨some 56, .cp (.v 3), none⟩,
         ⟨some 2, .cp (.v 55), none⟩,
         ⟨some 3, .cp (.v 56), none⟩,
         ⟨some 4, .cp (.k (.bool true)), none⟩] [2, 3, 4])
       (.ret)))))))
def rs63 : List RV := [.t 2, .t 3, .t 4]
theorem chk63 : chkFn Tryz.prog Tryz.f63 1 pc63 rs63 = true := by kernel_rfl
theorem rule63 {L : World → Prop} (hL : ∀ w w', L w → Below w.heap.size w w' → L w') {ds : List D} {r : D} (hr0 : aliasOf r = none) (hlen : ds.length = 1) (hp : ds.all (fun d => (aliasOf d).isNone) = true)
    (h : wC (Con Tryz.prog L) pc63 (retQ rs63 r) (initE 0 ds)) : Con Tryz.prog L 63 ds r :=
  con_chk hL Tryz.func63 chk63 hr0 hlen hp (wC_sound h)

/-- klippe/klipperef02.lowest -/
def pc64 : PC := .seq (.reg [
   ⟨some 4, .cp (.k (.str [])), none⟩] [0, 1])
 (.seq (.seq (.reg [
     ⟨some 7, .cp (.v 1), none⟩,
     ⟨some 8, .ci .neq (.v 7) (.k (.int .i64 1)), none⟩] [0, 1, 8])
   (.cnd (.v 8) (.seq (.reg [
       ⟨some 9, .cp (.v 0), none⟩,
       ⟨some 10, .cp (.v 0), none⟩,
       ⟨some 11, .ng .i64 (.v 10), none⟩,
       ⟨some 12, .mm true [.v 9, .v 11], none⟩,
       ⟨some 13, .cp (.v 1), none⟩,
       ⟨some 5, .cp (.v 12), none⟩,
       ⟨some 6, .cp (.v 13), none⟩] [0, 1, 5, 6])
     (.seq (.blk 0 (.loop (.seq (.seq (.reg [
            ⟨some 14, .cp (.v 6), none⟩,
            ⟨some 15, .ci .neq (.v 14) (.k (.int .i64 0)), none⟩] [0, 1, 5, 6, 15])
          (.cnd (.v 15) (.skip)
           (.exit 0)))
         (.blk 1 (.reg [
            ⟨some 16, .cp (.v 6), none⟩,
            ⟨some 17, .cp (.v 5), none⟩,
            ⟨some 18, .cp (.v 6), none⟩,
            ⟨some 19, .ari .rem .i64 (.v 17) (.v 18), none⟩,
            ⟨some 5, .cp (.v 16), none⟩,
            ⟨some 6, .cp (.v 19), none⟩] [0, 1, 5, 6])))))
      (.reg [
        ⟨some 20, .cp (.v 0), none⟩,
        ⟨some 21, .cp (.v 5), none⟩,
        ⟨some 22, .ari .quo .i64 (.v 20) (.v 21), none⟩,
        ⟨some 23, .cp (.v 1), none⟩,
        ⟨some 24, .cp (.v 5), none⟩,
        ⟨some 25, .ari .quo .i64 (.v 23) (.v 24), none⟩,
        ⟨some 0, .cp (.v 22), none⟩,
        ⟨some 1, .cp (.v 25), none⟩] [0, 1])))
    (.skip)))
  (.seq (.seq (.reg [
      ⟨some 26, .cp (.v 1), none⟩,
      ⟨some 27, .ci .eql (.v 26) (.k (.int .i64 1)), none⟩] [0, 1, 27])
    (.cnd (.v 27) (.seq (.reg [
        ⟨some 28, .cp (.v 0), none⟩,
        ⟨some 29, .call 85 [.v 28], none⟩,
        ⟨some 4, .cp (.v 29), none⟩] [4])
      (.ret))
     (.skip)))
   (.seq (.reg [
      ⟨some 30, .cp (.v 0), none⟩,
      ⟨some 31, .call 85 [.v 30], none⟩,
      ⟨some 32, .cat (.v 31) (.k (.str [47])), none⟩,
      ⟨some 33, .cp (.v 1), none⟩,
      ⟨some 34, .call 85 [.v 33], none⟩,
      ⟨some 35, .cat (.v 32) (.v 34), none⟩,
      ⟨some 4, .cp (.v 35), none⟩] [4])
    (.ret))))
def rs64 : List RV := [.t 4]
theorem chk64 : chkFn Tryz.prog Tryz.f64 2 pc64 rs64 = true := by kernel_rfl
theorem rule64 {L : World → Prop} (hL : ∀ w w', L w → Below w.heap.size w w' → L w') {ds : List D} {r : D} (hr0 : aliasOf r = none) (hlen : ds.length = 2) (hp : ds.all (fun d => (aliasOf d).isNone) = true)
    (h : wC (Con Tryz.prog L) pc64 (retQ rs64 r) (initE 0 ds)) : Con Tryz.prog L 64 ds r :=
  con_chk hL Tryz.func64 chk64 hr0 hlen hp (wC_sound h)

/-- klippe/klipperef02.Parts -/
def pc65 : PC := .seq (.reg [
   ⟨some 2, .cp (.k (.str [])), none⟩,
   ⟨some 3, .cp (.k (.str [])), none⟩] [0])
 (.seq (.reg [
    ⟨some 5, .cp (.v 0), none⟩,
    ⟨some 6, .call 97 [.v 5, .k (.int .u8 47)], none⟩,
    ⟨some 4, .cp (.v 6), none⟩] [0, 4])
  (.seq (.seq (.reg [
      ⟨some 7, .cp (.v 4), none⟩,
      ⟨some 8, .ci .lss (.v 7) (.k (.int .i64 0)), none⟩] [0, 4, 8])
    (.cnd (.v 8) (.seq (.reg [
        ⟨some 9, .cp (.v 0), none⟩,
        ⟨some 2, .cp (.v 9), none⟩,
        ⟨some 3, .cp (.k (.str [49])), none⟩] [2, 3])
      (.ret))
     (.skip)))
   (.seq (.reg [
      ⟨some 10, .cp (.v 0), none⟩,
      ⟨some 11, .cp (.v 4), none⟩,
      ⟨some 12, .slS (.v 10) none (some (.v 11)), none⟩,
      ⟨some 13, .cp (.v 0), none⟩,
      ⟨some 14, .cp (.v 4), none⟩,
      ⟨some 15, .ari .add .i64 (.v 14) (.k (.int .i64 1)), none⟩,
      ⟨some 16, .slS (.v 13) (some (.v 15)) none, none⟩,
      ⟨some 2, .cp (.v 12), none⟩,
      ⟨some 3, .cp (.v 16), none⟩] [2, 3])
    (.ret))))
def rs65 : List RV := [.t 2, .t 3]
theorem chk65 : chkFn Tryz.prog Tryz.f65 1 pc65 rs65 = true := by kernel_rfl
theorem rule65 {L : World → Prop} (hL : ∀ w w', L w → Below w.heap.size w w' → L w') {ds : List D} {r : D} (hr0 : aliasOf r = none) (hlen : ds.length = 1) (hp : ds.all (fun d => (aliasOf d).isNone) = true)
    (h : wC (Con Tryz.prog L) pc65 (retQ rs65 r) (initE 0 ds)) : Con Tryz.prog L 65 ds r :=
  con_chk hL Tryz.func65 chk65 hr0 hlen hp (wC_sound h)

/-- klippe/klipperef01.Add -/
def pc66 : PC := .seq (.reg [
   ⟨some 4, .cp (.k (.str [])), none⟩] [0, 1])
 (.seq (.reg [
    ⟨some 16, .cp (.v 0), none⟩,
    ⟨some 17, .call 98 [.v 16], none⟩,
    ⟨some 15, .cp (.v 17), none⟩,
    ⟨some 18, .ext 15 0, none⟩,
    ⟨some 19, .ext 15 1, none⟩,
    ⟨some 5, .cp (.v 18), none⟩,
    ⟨some 6, .cp (.v 19), none⟩] [0, 1, 5, 6])
  (.seq (.reg [
     ⟨some 21, .cp (.v 1), none⟩,
     ⟨some 22, .call 98 [.v 21], none⟩,
     ⟨some 20, .cp (.v 22), none⟩,
     ⟨some 23, .ext 20 0, none⟩,
     ⟨some 24, .ext 20 1, none⟩,
     ⟨some 7, .cp (.v 23), none⟩,
     ⟨some 8, .cp (.v 24), none⟩] [0, 1, 5, 6, 7, 8])
   (.seq (.seq (.reg [
       ⟨some 25, .cp (.v 6), none⟩,
       ⟨some 26, .cp (.v 25), none⟩,
       ⟨some 27, .cp (.v 8), (some (26, true))⟩,
       ⟨some 28, .pick (.v 26) (.v 27) (.k (.bool false)), none⟩] [0, 1, 5, 7, 28])
     (.cnd (.v 28) (.seq (.reg [
         ⟨some 29, .cp (.v 5), none⟩,
         ⟨some 30, .cp (.v 7), none⟩,
         ⟨some 31, .ari .add .i64 (.v 29) (.v 30), none⟩,
         ⟨some 32, .call 55 [.v 31], none⟩,
         ⟨some 4, .cp (.v 32), none⟩] [4])
       (.ret))
      (.skip)))
    (.seq (.reg [
       ⟨some 34, .cp (.v 0), none⟩,
       ⟨some 35, .call 99 [.v 34], none⟩,
       ⟨some 33, .cp (.v 35), none⟩,
       ⟨some 36, .ext 33 0, none⟩,
       ⟨some 37, .ext 33 1, none⟩,
       ⟨some 9, .cp (.v 36), none⟩,
       ⟨some 10, .cp (.v 37), none⟩] [1, 9, 10])
     (.seq (.reg [
        ⟨some 39, .cp (.v 1), none⟩,
        ⟨some 40, .call 99 [.v 39], none⟩,
        ⟨some 38, .cp (.v 40), none⟩,
        ⟨some 41, .ext 38 0, none⟩,
        ⟨some 42, .ext 38 1, none⟩,
        ⟨some 11, .cp (.v 41), none⟩,
        ⟨some 12, .cp (.v 42), none⟩] [9, 10, 11, 12])
      (.seq (.reg [
         ⟨some 43, .cp (.v 10), none⟩,
         ⟨some 44, .call 100 [.v 43], none⟩,
         ⟨some 45, .cp (.v 12), none⟩,
         ⟨some 46, .call 100 [.v 45], none⟩,
         ⟨some 13, .tk 44, none⟩,
         ⟨some 14, .tk 46, none⟩] [9, 11, 13, 14])
       (.seq (.blk 0 (.seq (.reg [
            ⟨some 48, .cp (.v 9), none⟩,
            ⟨some 49, .cp (.v 11), none⟩,
            ⟨some 50, .eqb false (.v 48) (.v 49), none⟩,
            ⟨some 47, .cp (.v 50), none⟩] [9, 11, 13, 14, 47])
          (.cnd (.v 47) (.seq (.reg [
              ⟨some 51, .cp (.v 9), none⟩,
              ⟨some 52, .tk 13, none⟩,
              ⟨some 53, .tk 14, none⟩,
              ⟨some 54, .call 102 [.v 52, .v 53, .k (.int .i64 1), .k (.int .i64 0)], none⟩,
              ⟨some 55, .call 101 [.v 51, .v 54], none⟩,
              ⟨some 4, .cp (.v 55), none⟩] [4])
            (.ret))
           (.seq (.reg [
              ⟨some 57, .mv (.v 13), none⟩,
              ⟨some 58, .mv (.v 14), none⟩,
              ⟨some 59, .call 103 [.o 57 13, .o 58 14], none⟩,
              ⟨some 56, .cp (.v 59), none⟩] [9, 11, 13, 14, 56])
            (.cnd (.v 56) (.seq (.reg [
                ⟨some 60, .cp (.v 11), none⟩,
                ⟨some 61, .tk 14, none⟩,
                ⟨some 62, .tk 13, none⟩,
                ⟨some 63, .call 102 [.v 61, .v 62, .k (.int .i64 (-1)), .k (.int .i64 0)], none⟩,
                ⟨some 64, .call 101 [.v 60, .v 63], none⟩,
                ⟨some 4, .cp (.v 64), none⟩] [4])
              (.ret))
             (.skip))))))
        (.seq (.reg [
           ⟨some 65, .cp (.v 9), none⟩,
           ⟨some 66, .tk 13, none⟩,
           ⟨some 67, .tk 14, none⟩,
           ⟨some 68, .call 102 [.v 66, .v 67, .k (.int .i64 (-1)), .k (.int .i64 0)], none⟩,
           ⟨some 69, .call 101 [.v 65, .v 68], none⟩,
           ⟨some 4, .cp (.v 69), none⟩] [4])
         (.ret)))))))))
def rs66 : List RV := [.t 4]
theorem chk66 : chkFn Tryz.prog Tryz.f66 2 pc66 rs66 = true := by kernel_rfl
theorem rule66 {L : World → Prop} (hL : ∀ w w', L w → Below w.heap.size w w' → L w') {ds : List D} {r : D} (hr0 : aliasOf r = none) (hlen : ds.length = 2) (hp : ds.all (fun d => (aliasOf d).isNone) = true)
    (h : wC (Con Tryz.prog L) pc66 (retQ rs66 r) (initE 0 ds)) : Con Tryz.prog L 66 ds r :=
  con_chk hL Tryz.func66 chk66 hr0 hlen hp (wC_sound h)

/-- klippe/klipperef01.Mul -/
def pc67 : PC := .seq (.reg [
   ⟨some 4, .cp (.k (.str [])), none⟩] [0, 1])
 (.seq (.reg [
    ⟨some 14, .cp (.v 0), none⟩,
    ⟨some 15, .call 99 [.v 14], none⟩,
    ⟨some 13, .cp (.v 15), none⟩,
    ⟨some 16, .ext 13 0, none⟩,
    ⟨some 17, .ext 13 1, none⟩,
    ⟨some 5, .cp (.v 16), none⟩,
    ⟨some 6, .cp (.v 17), none⟩] [0, 1, 5, 6])
  (.seq (.reg [
     ⟨some 19, .cp (.v 1), none⟩,
     ⟨some 20, .call 99 [.v 19], none⟩,
     ⟨some 18, .cp (.v 20), none⟩,
     ⟨some 21, .ext 18 0, none⟩,
     ⟨some 22, .ext 18 1, none⟩,
     ⟨some 7, .cp (.v 21), none⟩,
     ⟨some 8, .cp (.v 22), none⟩] [0, 1, 5, 6, 7, 8])
   (.seq (.seq (.reg [
       ⟨some 23, .cp (.v 6), none⟩,
       ⟨some 24, .lenS (.v 23), none⟩,
       ⟨some 25, .cp (.v 8), none⟩,
       ⟨some 26, .lenS (.v 25), none⟩,
       ⟨some 27, .ari .add .i64 (.v 24) (.v 26), none⟩,
       ⟨some 28, .ci .leq (.v 27) (.k (.int .i64 18)), none⟩] [0, 1, 5, 6, 7, 8, 28])
     (.cnd (.v 28) (.seq (.reg [
         ⟨some 30, .cp (.v 0), none⟩,
         ⟨some 31, .call 104 [.v 30], none⟩,
         ⟨some 29, .cp (.v 31), none⟩,
         ⟨some 32, .ext 29 0, none⟩,
         ⟨some 33, .ext 29 1, none⟩,
         ⟨some 9, .cp (.v 32), none⟩,
         ⟨some 10, .cp (.v 33), none⟩] [1, 9])
       (.seq (.reg [
          ⟨some 35, .cp (.v 1), none⟩,
          ⟨some 36, .call 104 [.v 35], none⟩,
          ⟨some 34, .cp (.v 36), none⟩,
          ⟨some 37, .ext 34 0, none⟩,
          ⟨some 38, .ext 34 1, none⟩,
          ⟨some 11, .cp (.v 37), none⟩,
          ⟨some 12, .cp (.v 38), none⟩] [9, 11])
        (.seq (.reg [
           ⟨some 39, .cp (.v 9), none⟩,
           ⟨some 40, .cp (.v 11), none⟩,
           ⟨some 41, .ari .mul .i64 (.v 39) (.v 40), none⟩,
           ⟨some 42, .call 55 [.v 41], none⟩,
           ⟨some 4, .cp (.v 42), none⟩] [4])
         (.ret))))
      (.skip)))
    (.seq (.reg [
       ⟨some 43, .cp (.v 5), none⟩,
       ⟨some 44, .cp (.v 7), none⟩,
       ⟨some 45, .eqb true (.v 43) (.v 44), none⟩,
       ⟨some 46, .cp (.v 6), none⟩,
       ⟨some 47, .call 100 [.v 46], none⟩,
       ⟨some 48, .cp (.v 8), none⟩,
       ⟨some 49, .call 100 [.v 48], none⟩,
       ⟨some 50, .call 105 [.v 47, .v 49], none⟩,
       ⟨some 51, .call 101 [.v 45, .v 50], none⟩,
       ⟨some 4, .cp (.v 51), none⟩] [4])
     (.ret)))))
def rs67 : List RV := [.t 4]
theorem chk67 : chkFn Tryz.prog Tryz.f67 2 pc67 rs67 = true := by kernel_rfl
theorem rule67 {L : World → Prop} (hL : ∀ w w', L w → Below w.heap.size w w' → L w') {ds : List D} {r : D} (hr0 : aliasOf r = none) (hlen : ds.length = 2) (hp : ds.all (fun d => (aliasOf d).isNone) = true)
    (h : wC (Con Tryz.prog L) pc67 (retQ rs67 r) (initE 0 ds)) : Con Tryz.prog L 67 ds r :=
  con_chk hL Tryz.func67 chk67 hr0 hlen hp (wC_sound h)

/-- klippe/relation.IsName -/
def pc68 : PC := .seq (.reg [
   ⟨some 2, .cp (.k (.bool false)), none⟩] [0])
 (.seq (.seq (.reg [
     ⟨some 7, .cp (.v 0), none⟩,
     ⟨some 8, .sc .eql (.v 7) (.k (.str [])), none⟩,
     ⟨some 9, .cp (.v 8), none⟩,
     ⟨some 10, .cp (.v 0), (some (9, false))⟩,
     ⟨some 11, .lenS (.v 10), (some (9, false))⟩,
     ⟨some 12, .ci .gtr (.v 11) (.k (.int .i64 32)), (some (9, false))⟩,
     ⟨some 13, .pick (.v 9) (.k (.bool true)) (.v 12), none⟩] [0, 13])
   (.cnd (.v 13) (.seq (.reg [
       ⟨some 2, .cp (.k (.bool false)), none⟩] [2])
     (.ret))
    (.skip)))
  (.seq (.seq (.reg [
      ⟨some 14, .cp (.v 0), none⟩,
      ⟨some 15, .cvSB (.v 14), none⟩,
      ⟨some 16, .len (.v 15), none⟩,
      ⟨some 17, .cp (.k (.int .i64 0)), none⟩] [15, 16, 17])
    (.blk 0 (.loop (.seq (.reg [
         ⟨some 18, .ci .lss (.v 17) (.v 16), none⟩] [15, 16, 17, 18])
       (.seq (.cnd (.v 18) (.skip)
         (.exit 0))
        (.seq (.blk 1 (.seq (.reg [
             ⟨some 19, .cp (.v 17), none⟩,
             ⟨some 20, .ia 1 (.v 15) (.v 17), none⟩,
             ⟨some 21, .ld false 1 (.o 20 15), none⟩,
             ⟨some 3, .cp (.v 19), none⟩,
             ⟨some 4, .cp (.v 21), none⟩] [3, 4, 15, 16, 17])
           (.seq (.reg [
              ⟨some 22, .cp (.v 4), none⟩,
              ⟨some 23, .ci .leq (.k (.int .u8 97)) (.v 22), none⟩,
              ⟨some 24, .cp (.v 23), none⟩,
              ⟨some 25, .cp (.v 4), (some (24, true))⟩,
              ⟨some 26, .ci .leq (.v 25) (.k (.int .u8 122)), (some (24, true))⟩,
              ⟨some 27, .pick (.v 24) (.v 26) (.k (.bool false)), none⟩,
              ⟨some 28, .cp (.v 27), none⟩,
              ⟨some 29, .cp (.v 4), (some (28, false))⟩,
              ⟨some 30, .ci .leq (.k (.int .u8 65)) (.v 29), (some (28, false))⟩,
              ⟨some 31, .cp (.v 30), (some (28, false))⟩,
              ⟨some 32, .cp (.v 4), (some (31, true))⟩,
              ⟨some 33, .ci .leq (.v 32) (.k (.int .u8 90)), (some (31, true))⟩,
              ⟨some 34, .pick (.v 31) (.v 33) (.k (.bool false)), (some (28, false))⟩,
              ⟨some 35, .pick (.v 28) (.k (.bool true)) (.v 34), none⟩,
              ⟨some 5, .cp (.v 35), none⟩] [3, 4, 5, 15, 16, 17])
            (.seq (.reg [
               ⟨some 36, .cp (.v 4), none⟩,
               ⟨some 37, .ci .leq (.k (.int .u8 48)) (.v 36), none⟩,
               ⟨some 38, .cp (.v 37), none⟩,
               ⟨some 39, .cp (.v 4), (some (38, true))⟩,
               ⟨some 40, .ci .leq (.v 39) (.k (.int .u8 57)), (some (38, true))⟩,
               ⟨some 41, .pick (.v 38) (.v 40) (.k (.bool false)), none⟩,
               ⟨some 42, .cp (.v 41), none⟩,
               ⟨some 43, .cp (.v 4), (some (42, false))⟩,
               ⟨some 44, .ci .eql (.v 43) (.k (.int .u8 95)), (some (42, false))⟩,
               ⟨some 45, .pick (.v 42) (.k (.bool true)) (.v 44), none⟩,
               ⟨some 6, .cp (.v 45), none⟩] [3, 5, 6, 15, 16, 17])
             (.seq (.reg [
                ⟨some 46, .cp (.v 5), none⟩,
                ⟨some 47, .not (.v 46), none⟩,
                ⟨some 48, .cp (.v 47), none⟩,
                ⟨some 49, .cp (.v 3), (some (48, true))⟩,
                ⟨some 50, .ci .eql (.v 49) (.k (.int .i64 0)), (some (48, true))⟩,
                ⟨some 51, .cp (.v 50), (some (48, true))⟩,
                ⟨some 52, .cp (.v 6), (some (51, false))⟩,
                ⟨some 53, .not (.v 52), (some (51, false))⟩,
                ⟨some 54, .pick (.v 51) (.k (.bool true)) (.v 53), (some (48, true))⟩,
                ⟨some 55, .pick (.v 48) (.v 54) (.k (.bool false)), none⟩] [15, 16, 17, 55])
              (.cnd (.v 55) (.seq (.reg [
                  ⟨some 2, .cp (.k (.bool false)), none⟩] [2])
                (.ret))
               (.skip)))))))
         (.reg [
           ⟨some 56, .ari .add .i64 (.v 17) (.k (.int .i64 1)), none⟩,
           ⟨some 17, .cp (.v 56), none⟩] [15, 16, 17])))))))
   (.seq (.reg [
      ⟨some 2, .cp (.k (.bool true)), none⟩] [2])
    (.ret))))
def rs68 : List RV := [.t 2]
theorem chk68 : chkFn Tryz.prog Tryz.f68 1 pc68 rs68 = true := by kernel_rfl
theorem rule68 {L : World → Prop} (hL : ∀ w w', L w → Below w.heap.size w w' → L w') {ds : List D} {r : D} (hr0 : aliasOf r = none) (hlen : ds.length = 1) (hp : ds.all (fun d => (aliasOf d).isNone) = true)
    (h : wC (Con Tryz.prog L) pc68 (retQ rs68 r) (initE 0 ds)) : Con Tryz.prog L 68 ds r :=
  con_chk hL Tryz.func68 chk68 hr0 hlen hp (wC_sound h)

/-- klippe/column.names -/
def pc69 : PC := .seq (.reg [
   ⟨some 2, .nil 9, none⟩] [0])
 (.seq (.reg [
    ⟨some 3, .nil 9, none⟩] [0, 3])
  (.seq (.seq (.reg [
      ⟨some 6, .cp (.v 0), none⟩,
      ⟨some 7, .len (.v 6), none⟩,
      ⟨some 8, .cp (.k (.int .i64 0)), none⟩] [3, 6, 7, 8])
    (.blk 0 (.loop (.seq (.reg [
         ⟨some 9, .ci .lss (.v 8) (.v 7), none⟩] [3, 6, 7, 8, 9])
       (.seq (.cnd (.v 9) (.skip)
         (.exit 0))
        (.seq (.blk 1 (.seq (.reg [
             ⟨some 10, .ia 3 (.v 6) (.v 8), none⟩,
             ⟨some 11, .ld true 3 (.v 10), none⟩,
             ⟨some 5, .alloc [.str [], .str [], .str []], none⟩,
             ⟨none, .st 3 (.v 5) (.v 11), none⟩] [3, 5, 6, 7, 8])
           (.reg [
             ⟨some 12, .tk 3, none⟩,
             ⟨some 13, .fa 0 (.v 5), none⟩,
             ⟨some 14, .ld false 1 (.o 13 5), none⟩,
             ⟨some 15, .bldS 9 [.str []] 1 [(0, 1, .v 14)], none⟩,
             ⟨some 16, .app 9 1 16 (.v 12) (.v 15), none⟩,
             ⟨some 3, .tk 16, none⟩] [3, 6, 7, 8])))
         (.reg [
           ⟨some 17, .ari .add .i64 (.v 8) (.k (.int .i64 1)), none⟩,
           ⟨some 8, .cp (.v 17), none⟩] [3, 6, 7, 8])))))))
   (.seq (.reg [
      ⟨some 18, .tk 3, none⟩,
      ⟨some 2, .tk 18, none⟩] [2])
    (.ret))))
def rs69 : List RV := [.t 2]
theorem chk69 : chkFn Tryz.prog Tryz.f69 1 pc69 rs69 = true := by kernel_rfl
theorem rule69 {L : World → Prop} (hL : ∀ w w', L w → Below w.heap.size w w' → L w') {ds : List D} {r : D} (hr0 : aliasOf r = none) (hlen : ds.length = 1) (hp : ds.all (fun d => (aliasOf d).isNone) = true)
    (h : wC (Con Tryz.prog L) pc69 (retQ rs69 r) (initE 0 ds)) : Con Tryz.prog L 69 ds r :=
  con_chk hL Tryz.func69 chk69 hr0 hlen hp (wC_sound h)

/-- slices.IndexFunc[[]string,string] -/
def pc70 : PC := .seq (.reg [
   ⟨some 4, .cp (.k (.int .i64 0)), none⟩] [0, 1])
 (.seq (.seq (.reg [
     ⟨some 6, .cp (.v 0), none⟩,
     ⟨some 7, .len (.v 6), none⟩,
     ⟨some 8, .cp (.k (.int .i64 0)), none⟩] [0, 1, 7, 8])
   (.blk 0 (.loop (.seq (.reg [
        ⟨some 9, .ci .lss (.v 8) (.v 7), none⟩] [0, 1, 7, 8, 9])
      (.seq (.cnd (.v 9) (.skip)
        (.exit 0))
       (.seq (.blk 1 (.seq (.reg [
            ⟨some 10, .cp (.v 8), none⟩,
            ⟨some 5, .cp (.v 10), none⟩] [0, 1, 5, 7, 8])
          (.seq (.reg [
             ⟨some 11, .cp (.v 1), none⟩,
             ⟨some 12, .cp (.v 0), none⟩,
             ⟨some 13, .cp (.v 5), none⟩,
             ⟨some 14, .ia 1 (.v 12) (.v 13), none⟩,
             ⟨some 15, .ld false 1 (.v 14), none⟩,
             ⟨some 16, .callV 11 [.v 15], none⟩] [0, 1, 5, 7, 8, 16])
           (.cnd (.v 16) (.seq (.reg [
               ⟨some 17, .cp (.v 5), none⟩,
               ⟨some 4, .cp (.v 17), none⟩] [4])
             (.ret))
            (.skip)))))
        (.reg [
          ⟨some 18, .ari .add .i64 (.v 8) (.k (.int .i64 1)), none⟩,
          ⟨some 8, .cp (.v 18), none⟩] [0, 1, 7, 8])))))))
  (.seq (.reg [
     ⟨some 4, .cp (.k (.int .i64 (-1))), none⟩] [4])
   (.ret)))
def rs70 : List RV := [.t 4]
theorem chk70 : chkFn Tryz.prog Tryz.f70 2 pc70 rs70 = true := by kernel_rfl
theorem rule70 {L : World → Prop} (hL : ∀ w w', L w → Below w.heap.size w w' → L w') {ds : List D} {r : D} (hr0 : aliasOf r = none) (hlen : ds.length = 2) (hp : ds.all (fun d => (aliasOf d).isNone) = true)
    (h : wC (Con Tryz.prog L) pc70 (retQ rs70 r) (initE 0 ds)) : Con Tryz.prog L 70 ds r :=
  con_chk hL Tryz.func70 chk70 hr0 hlen hp (wC_sound h)

/-- slices.Index[[]string,string] -/
def pc71 : PC := .seq (.reg [
   ⟨some 4, .cp (.k (.int .i64 0)), none⟩] [0, 1])
 (.seq (.seq (.reg [
     ⟨some 6, .cp (.v 0), none⟩,
     ⟨some 7, .len (.v 6), none⟩,
     ⟨some 8, .cp (.k (.int .i64 0)), none⟩] [0, 1, 7, 8])
   (.blk 0 (.loop (.seq (.reg [
        ⟨some 9, .ci .lss (.v 8) (.v 7), none⟩] [0, 1, 7, 8, 9])
      (.seq (.cnd (.v 9) (.skip)
        (.exit 0))
       (.seq (.blk 1 (.seq (.reg [
            ⟨some 10, .cp (.v 8), none⟩,
            ⟨some 5, .cp (.v 10), none⟩] [0, 1, 5, 7, 8])
          (.seq (.reg [
             ⟨some 11, .cp (.v 1), none⟩,
             ⟨some 12, .cp (.v 0), none⟩,
             ⟨some 13, .cp (.v 5), none⟩,
             ⟨some 14, .ia 1 (.v 12) (.v 13), none⟩,
             ⟨some 15, .ld false 1 (.v 14), none⟩,
             ⟨some 16, .sc .eql (.v 11) (.v 15), none⟩] [0, 1, 5, 7, 8, 16])
           (.cnd (.v 16) (.seq (.reg [
               ⟨some 17, .cp (.v 5), none⟩,
               ⟨some 4, .cp (.v 17), none⟩] [4])
             (.ret))
            (.skip)))))
        (.reg [
          ⟨some 18, .ari .add .i64 (.v 8) (.k (.int .i64 1)), none⟩,
          ⟨some 8, .cp (.v 18), none⟩] [0, 1, 7, 8])))))))
  (.seq (.reg [
     ⟨some 4, .cp (.k (.int .i64 (-1))), none⟩] [4])
   (.ret)))
def rs71 : List RV := [.t 4]
theorem chk71 : chkFn Tryz.prog Tryz.f71 2 pc71 rs71 = true := by kernel_rfl
theorem rule71 {L : World → Prop} (hL : ∀ w w', L w → Below w.heap.size w w' → L w') {ds : List D} {r : D} (hr0 : aliasOf r = none) (hlen : ds.length = 2) (hp : ds.all (fun d => (aliasOf d).isNone) = true)
    (h : wC (Con Tryz.prog L) pc71 (retQ rs71 r) (initE 0 ds)) : Con Tryz.prog L 71 ds r :=
  con_chk hL Tryz.func71 chk71 hr0 hlen hp (wC_sound h)

/-- klippe/column.layer -/
def pc77 : PC := .seq (.reg [
   ⟨some 1, .bx 3 (.v 0), none⟩,
   ⟨some 2, .cp (.k (.int .i64 0)), none⟩] [1])
 (.seq (.blk 0 (.seq (.seq (.reg [
       ⟨some 4, .fa 1 (.v 1), none⟩,
       ⟨some 5, .ld false 1 (.o 4 1), none⟩,
       ⟨some 6, .call 62 [.v 5], none⟩,
       ⟨some 7, .ci .neq (.v 6) (.k (.int .i64 0)), none⟩,
       ⟨some 3, .cp (.v 7), none⟩] [1, 3])
     (.cnd (.v 3) (.skip)
      (.reg [
        ⟨some 8, .fa 2 (.v 1), none⟩,
        ⟨some 9, .ld false 1 (.o 8 1), none⟩,
        ⟨some 10, .sc .neq (.v 9) (.k (.str [])), none⟩,
        ⟨some 11, .cp (.v 10), none⟩,
        ⟨some 12, .fa 2 (.v 1), (some (11, true))⟩,
        ⟨some 13, .ld false 1 (.o 12 1), (some (11, true))⟩,
        ⟨some 14, .call 62 [.v 13], (some (11, true))⟩,
        ⟨some 15, .ci .neq (.v 14) (.k (.int .i64 0)), (some (11, true))⟩,
        ⟨some 16, .pick (.v 11) (.v 15) (.k (.bool false)), none⟩,
        ⟨some 3, .cp (.v 16), none⟩] [3])))
    (.cnd (.v 3) (.seq (.reg [
        ⟨some 2, .cp (.k (.int .i64 2)), none⟩] [2])
      (.ret))
     (.skip))))
  (.seq (.reg [
     ⟨some 2, .cp (.k (.int .i64 0)), none⟩] [2])
   (.ret)))
def rs77 : List RV := [.t 2]
theorem chk77 : chkFn Tryz.prog Tryz.f77 1 pc77 rs77 = true := by kernel_rfl
theorem rule77 {L : World → Prop} (hL : ∀ w w', L w → Below w.heap.size w w' → L w') {ds : List D} {r : D} (hr0 : aliasOf r = none) (hlen : ds.length = 1) (hp : ds.all (fun d => (aliasOf d).isNone) = true)
    (h : wC (Con Tryz.prog L) pc77 (retQ rs77 r) (initE 0 ds)) : Con Tryz.prog L 77 ds r :=
  con_chk hL Tryz.func77 chk77 hr0 hlen hp (wC_sound h)

/-- klippe/rational.Sign -/
def pc78 : PC := .seq (.reg [
   ⟨some 2, .cp (.k (.int .i64 0)), none⟩] [0])
 (.seq (.blk 0 (.seq (.reg [
      ⟨some 4, .cp (.v 0), none⟩,
      ⟨some 5, .sc .eql (.v 4) (.k (.str [48])), none⟩,
      ⟨some 3, .cp (.v 5), none⟩] [0, 3])
    (.cnd (.v 3) (.seq (.reg [
        ⟨some 2, .cp (.k (.int .i64 0)), none⟩] [2])
      (.ret))
     (.seq (.reg [
        ⟨some 7, .cp (.v 0), none⟩,
        ⟨some 8, .lenS (.v 7), none⟩,
        ⟨some 9, .ci .gtr (.v 8) (.k (.int .i64 0)), none⟩,
        ⟨some 10, .cp (.v 9), none⟩,
        ⟨some 11, .cp (.v 0), (some (10, true))⟩,
        ⟨some 12, .ix (.v 11) (.k (.int .i64 0)), (some (10, true))⟩,
        ⟨some 13, .ci .eql (.v 12) (.k (.int .u8 45)), (some (10, true))⟩,
        ⟨some 14, .pick (.v 10) (.v 13) (.k (.bool false)), none⟩,
        ⟨some 6, .cp (.v 14), none⟩] [6])
      (.cnd (.v 6) (.seq (.reg [
          ⟨some 2, .cp (.k (.int .i64 (-1))), none⟩] [2])
        (.ret))
       (.skip))))))
  (.seq (.reg [
     ⟨some 2, .cp (.k (.int .i64 1)), none⟩] [2])
   (.ret)))
def rs78 : List RV := [.t 2]
theorem chk78 : chkFn Tryz.prog Tryz.f78 1 pc78 rs78 = true := by kernel_rfl
theorem rule78 {L : World → Prop} (hL : ∀ w w', L w → Below w.heap.size w w' → L w') {ds : List D} {r : D} (hr0 : aliasOf r = none) (hlen : ds.length = 1) (hp : ds.all (fun d => (aliasOf d).isNone) = true)
    (h : wC (Con Tryz.prog L) pc78 (retQ rs78 r) (initE 0 ds)) : Con Tryz.prog L 78 ds r :=
  con_chk hL Tryz.func78 chk78 hr0 hlen hp (wC_sound h)

/-- klippe/rational.Compare -/
def pc79 : PC := .seq (.reg [
   ⟨some 4, .cp (.k (.int .i64 0)), none⟩] [0, 1])
 (.seq (.seq (.reg [
     ⟨some 17, .cp (.v 0), none⟩,
     ⟨some 18, .cp (.v 1), none⟩,
     ⟨some 19, .sc .eql (.v 17) (.v 18), none⟩] [0, 1, 19])
   (.cnd (.v 19) (.seq (.reg [
       ⟨some 4, .cp (.k (.int .i64 0)), none⟩] [4])
     (.ret))
    (.skip)))
  (.seq (.seq (.reg [
      ⟨some 21, .cp (.v 0), none⟩,
      ⟨some 22, .call 87 [.v 21], none⟩,
      ⟨some 20, .cp (.v 22), none⟩,
      ⟨some 23, .ext 20 0, none⟩,
      ⟨some 24, .ext 20 1, none⟩,
      ⟨some 25, .ext 20 2, none⟩,
      ⟨some 5, .cp (.v 23), none⟩,
      ⟨some 6, .cp (.v 24), none⟩,
      ⟨some 7, .cp (.v 25), none⟩] [0, 1, 5, 6, 7])
    (.seq (.reg [
       ⟨some 26, .cp (.v 7), none⟩] [0, 1, 5, 6, 26])
     (.cnd (.v 26) (.seq (.reg [
         ⟨some 28, .cp (.v 1), none⟩,
         ⟨some 29, .call 87 [.v 28], none⟩,
         ⟨some 27, .cp (.v 29), none⟩,
         ⟨some 30, .ext 27 0, none⟩,
         ⟨some 31, .ext 27 1, none⟩,
         ⟨some 32, .ext 27 2, none⟩,
         ⟨some 8, .cp (.v 30), none⟩,
         ⟨some 9, .cp (.v 31), none⟩,
         ⟨some 10, .cp (.v 32), none⟩] [0, 1, 5, 6, 8, 9, 10])
       (.seq (.reg [
          ⟨some 33, .cp (.v 10), none⟩] [0, 1, 5, 6, 8, 9, 33])
        (.cnd (.v 33) (.seq (.seq (.reg [
             ⟨some 34, .cp (.v 5), none⟩,
             ⟨some 35, .cp (.v 9), none⟩,
             ⟨some 36, .ari .mul .i64 (.v 34) (.v 35), none⟩,
             ⟨some 37, .cp (.v 8), none⟩,
             ⟨some 38, .cp (.v 6), none⟩,
             ⟨some 39, .ari .mul .i64 (.v 37) (.v 38), none⟩,
             ⟨some 11, .cp (.v 36), none⟩,
             ⟨some 12, .cp (.v 39), none⟩] [11, 12])
           (.blk 0 (.seq (.reg [
               ⟨some 41, .cp (.v 11), none⟩,
               ⟨some 42, .cp (.v 12), none⟩,
               ⟨some 43, .ci .lss (.v 41) (.v 42), none⟩,
               ⟨some 40, .cp (.v 43), none⟩] [11, 12, 40])
             (.cnd (.v 40) (.seq (.reg [
                 ⟨some 4, .cp (.k (.int .i64 (-1))), none⟩] [4])
               (.ret))
              (.seq (.reg [
                 ⟨some 45, .cp (.v 11), none⟩,
                 ⟨some 46, .cp (.v 12), none⟩,
                 ⟨some 47, .ci .gtr (.v 45) (.v 46), none⟩,
                 ⟨some 44, .cp (.v 47), none⟩] [44])
               (.cnd (.v 44) (.seq (.reg [
                   ⟨some 4, .cp (.k (.int .i64 1)), none⟩] [4])
                 (.ret))
                (.skip)))))))
          (.seq (.reg [
             ⟨some 4, .cp (.k (.int .i64 0)), none⟩] [4])
           (.ret)))
         (.skip))))
      (.skip))))
   (.seq (.reg [
      ⟨some 49, .cp (.v 0), none⟩,
      ⟨some 50, .call 89 [.v 49], none⟩,
      ⟨some 48, .cp (.v 50), none⟩,
      ⟨some 51, .ext 48 0, none⟩,
      ⟨some 52, .ext 48 1, none⟩,
      ⟨some 13, .cp (.v 51), none⟩,
      ⟨some 14, .cp (.v 52), none⟩] [1, 13, 14])
    (.seq (.reg [
       ⟨some 54, .cp (.v 1), none⟩,
       ⟨some 55, .call 89 [.v 54], none⟩,
       ⟨some 53, .cp (.v 55), none⟩,
       ⟨some 56, .ext 53 0, none⟩,
       ⟨some 57, .ext 53 1, none⟩,
       ⟨some 15, .cp (.v 56), none⟩,
       ⟨some 16, .cp (.v 57), none⟩] [13, 14, 15, 16])
     (.seq (.reg [
        ⟨some 58, .cp (.v 13), none⟩,
        ⟨some 59, .cp (.v 16), none⟩,
        ⟨some 60, .call 92 [.v 58, .v 59], none⟩,
        ⟨some 61, .cp (.v 15), none⟩,
        ⟨some 62, .cp (.v 14), none⟩,
        ⟨some 63, .call 92 [.v 61, .v 62], none⟩,
        ⟨some 64, .call 95 [.v 60, .v 63], none⟩,
        ⟨some 4, .cp (.v 64), none⟩] [4])
      (.ret))))))
def rs79 : List RV := [.t 4]
theorem chk79 : chkFn Tryz.prog Tryz.f79 2 pc79 rs79 = true := by kernel_rfl
theorem rule79 {L : World → Prop} (hL : ∀ w w', L w → Below w.heap.size w w' → L w') {ds : List D} {r : D} (hr0 : aliasOf r = none) (hlen : ds.length = 2) (hp : ds.all (fun d => (aliasOf d).isNone) = true)
    (h : wC (Con Tryz.prog L) pc79 (retQ rs79 r) (initE 0 ds)) : Con Tryz.prog L 79 ds r :=
  con_chk hL Tryz.func79 chk79 hr0 hlen hp (wC_sound h)

end Go.Proofs
