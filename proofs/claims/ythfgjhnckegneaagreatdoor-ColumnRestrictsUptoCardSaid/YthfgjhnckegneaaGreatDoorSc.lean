/- The pure readings of functions of this seat, printed by program (pcfile.py). Own work. -/
import Derived.Test.YthfgjhnckegneaaGreatDoorProg
import Derived.Test.YthfgjhnckegneaaGreatDoorPj
import Derived.Test.YthfgjhnckegneaaGreatDoorEa
import Derived.KernelRfl
namespace Go.Proofs
open Go Go.Pi Go.RowKit
set_option maxRecDepth 100000

/-- slices.DeleteFunc[[]klippe/api.Layer,klippe/api.Layer] -/
def pc40 : PC := .seq (.reg [
   ⟨some 4, .nil 39, none⟩] [0, 1])
 (.seq (.reg [
    ⟨some 8, .mv (.v 0), none⟩,
    ⟨some 9, .cp (.v 1), none⟩,
    ⟨some 10, .call 58 [.o 8 0, .v 9], none⟩,
    ⟨some 5, .cp (.v 10), none⟩] [0, 1, 5])
  (.seq (.seq (.reg [
      ⟨some 11, .cp (.v 5), none⟩,
      ⟨some 12, .ci .eql (.v 11) (.k (.int .i64 (-1))), none⟩] [0, 1, 5, 12])
    (.cnd (.v 12) (.seq (.reg [
        ⟨some 13, .tk 0, none⟩,
        ⟨some 4, .tk 13, none⟩] [4])
      (.ret))
     (.skip)))
   (.seq (.seq (.reg [
       ⟨some 14, .cp (.v 5), none⟩,
       ⟨some 15, .ari .add .i64 (.v 14) (.k (.int .i64 1)), none⟩,
       ⟨some 6, .cp (.v 15), none⟩] [0, 1, 5, 6])
     (.blk 0 (.loop (.seq (.seq (.reg [
           ⟨some 16, .cp (.v 6), none⟩,
           ⟨some 17, .mv (.v 0), none⟩,
           ⟨some 18, .len (.o 17 0), none⟩,
           ⟨some 19, .ci .lss (.v 16) (.v 18), none⟩] [0, 1, 5, 6, 19])
         (.cnd (.v 19) (.skip)
          (.exit 0)))
        (.seq (.blk 1 (.seq (.reg [
             ⟨some 22, .mv (.v 0), none⟩,
             ⟨some 23, .cp (.v 6), none⟩,
             ⟨some 24, .ia 3 (.o 22 0) (.v 23), none⟩,
             ⟨some 25, .ld true 3 (.o 24 0), none⟩,
             ⟨some 7, .alloc [.str [], .str [], .str []], none⟩,
             ⟨none, .st 3 (.v 7) (.v 25), none⟩] [0, 1, 5, 6, 7])
           (.seq (.reg [
              ⟨some 26, .cp (.v 1), none⟩,
              ⟨some 27, .ld true 3 (.v 7), none⟩,
              ⟨some 28, .callV 26 [.v 27], none⟩,
              ⟨some 29, .not (.v 28), none⟩] [0, 1, 5, 6, 7, 29])
            (.cnd (.v 29) (.seq (.reg [
                ⟨some 30, .mv (.v 0), none⟩,
                ⟨some 31, .cp (.v 5), none⟩,
                ⟨some 32, .ld true 3 (.v 7), none⟩,
                ⟨some 33, .ia 3 (.o 30 0) (.v 31), none⟩,
                ⟨none, .st 3 (.o 33 0) (.v 32), none⟩] [0, 1, 5, 6])
              (.reg [
                ⟨some 34, .cp (.v 5), none⟩,
                ⟨some 35, .ari .add .i64 (.v 34) (.k (.int .i64 1)), none⟩,
                ⟨some 5, .cp (.v 35), none⟩] [0, 1, 5, 6]))
             (.skip)))))
         (.reg [
           ⟨some 20, .cp (.v 6), none⟩,
           ⟨some 21, .ari .add .i64 (.v 20) (.k (.int .i64 1)), none⟩,
           ⟨some 6, .cp (.v 21), none⟩] [0, 1, 5, 6]))))))
    (.seq (.cus [36, 37, 38] (clearT 0 5 3 [.str [], .str [], .str []] 39 [0, 5]))
     (.seq (.reg [
        ⟨some 39, .tk 0, none⟩,
        ⟨some 40, .cp (.v 5), none⟩,
        ⟨some 41, .slc 3 (.v 39) none (some (.v 40)), none⟩,
        ⟨some 4, .cp (.v 41), none⟩] [4])
      (.ret))))))
def rs40 : List RV := [.t 4]
theorem chk40 : chkFnR Tryz.prog Tryz.f40 2 pc40 rs40 = true := by kernel_rfl
theorem rule40 {L : World → Prop} (hL : ∀ w w', L w → Below w.heap.size w w' → L w') (hbk : ∀ q ∈ pc40.backs, IsBack Tryz.prog q.1 q.2.1 q.2.2) (hcu : ∀ c, Tryz.f40.body = some c → ∀ q ∈ cusL c pc40, CusOk Tryz.prog L q.1 q.2.1 q.2.2) {ds : List D} {r : D} (hr0 : aliasOf r = none) (hlen : ds.length = 2) (hp : ds.all (fun d => (aliasOf d).isNone) = true)
    (h : wC (Con Tryz.prog L) pc40 (retQ rs40 r) (initE 0 ds)) : Con Tryz.prog L 40 ds r :=
  con_chkR hL Tryz.func40 chk40 hbk hcu hr0 hlen hp (wC_sound h)

/-- klippe/klippelaw22.ColumnRestricts -/
def pc9 : PC := .seq (.reg [
   ⟨some 2, .bx 9 (.v 0), none⟩,
   ⟨some 3, .bx 1 (.v 1), none⟩,
   ⟨some 4, .cp (.k (.bool false)), none⟩] [2, 3])
 (.seq (.seq (.reg [
     ⟨some 17, .call 11 [], none⟩,
     ⟨some 18, .not (.v 17), none⟩,
     ⟨some 19, .cp (.v 18), none⟩,
     ⟨some 20, .ld false 1 (.v 3), (some (19, false))⟩,
     ⟨some 21, .len (.v 20), (some (19, false))⟩,
     ⟨some 22, .ci .gtr (.v 21) (.k (.int .i64 6)), (some (19, false))⟩,
     ⟨some 23, .pick (.v 19) (.k (.bool true)) (.v 22), none⟩] [2, 3, 23])
   (.cnd (.v 23) (.seq (.reg [
       ⟨some 24, .call 11 [], none⟩,
       ⟨some 4, .cp (.v 24), none⟩] [4])
     (.ret))
    (.skip)))
  (.seq (.reg [
     ⟨some 25, .ld true 9 (.v 2), none⟩,
     ⟨some 26, .call 12 [.v 25], none⟩,
     ⟨some 5, .alloc [.sl 0 []], none⟩,
     ⟨none, .st 1 (.v 5) (.v 26), none⟩] [3, 5])
   (.seq (.reg [
      ⟨some 28, .ld false 1 (.v 5), none⟩,
      ⟨some 29, .ld false 1 (.v 3), none⟩,
      ⟨some 30, .call 33 [.v 28, .v 29], none⟩,
      ⟨some 27, .cp (.v 30), none⟩,
      ⟨some 31, .ext 27 0, none⟩,
      ⟨some 32, .ext 27 1, none⟩,
      ⟨some 6, .cp (.v 31), none⟩,
      ⟨some 7, .cp (.v 32), none⟩] [3, 5, 6, 7])
    (.seq (.reg [
       ⟨some 34, .ld false 1 (.v 5), none⟩,
       ⟨some 35, .ld false 1 (.v 3), none⟩,
       ⟨some 36, .call 36 [.v 34, .v 35], none⟩,
       ⟨some 33, .cp (.v 36), none⟩,
       ⟨some 37, .ext 33 0, none⟩,
       ⟨some 38, .ext 33 1, none⟩,
       ⟨some 39, .ext 33 2, none⟩,
       ⟨some 8, .cp (.v 37), none⟩,
       ⟨some 9, .cp (.v 38), none⟩,
       ⟨some 10, .cp (.v 39), none⟩] [3, 5, 6, 7, 8, 9, 10])
     (.seq (.reg [
        ⟨some 40, .ld false 1 (.v 3), none⟩,
        ⟨some 41, .mkf 38 [.v 5], none⟩,
        ⟨some 42, .call 37 [.v 40, .v 41], none⟩,
        ⟨some 11, .cp (.v 42), none⟩] [3, 5, 6, 7, 8, 9, 10, 11])
      (.seq (.reg [
         ⟨some 12, .cp (.k (.int .i64 0)), none⟩,
         ⟨some 13, .cp (.k (.int .i64 (-1))), none⟩] [3, 5, 6, 7, 8, 9, 10, 11, 12, 13])
       (.seq (.seq (.reg [
           ⟨some 43, .ld false 1 (.v 3), none⟩,
           ⟨some 44, .len (.v 43), none⟩,
           ⟨some 45, .ci .eql (.v 44) (.k (.int .i64 0)), none⟩] [3, 5, 6, 7, 8, 9, 10, 11, 12, 13, 45])
         (.cnd (.v 45) (.reg [
            ⟨some 12, .cp (.k (.int .i64 13)), none⟩] [3, 5, 6, 7, 8, 9, 10, 11, 12, 13])
          (.skip)))
        (.seq (.seq (.reg [
            ⟨some 46, .ld false 1 (.v 3), none⟩,
            ⟨some 47, .len (.v 46), none⟩,
            ⟨some 48, .cp (.k (.int .i64 0)), none⟩] [3, 5, 6, 7, 8, 9, 10, 11, 12, 13, 46, 47, 48])
          (.blk 0 (.loop (.seq (.reg [
               ⟨some 49, .ci .lss (.v 48) (.v 47), none⟩] [3, 5, 6, 7, 8, 9, 10, 11, 12, 13, 46, 47, 48, 49])
             (.seq (.cnd (.v 49) (.skip)
               (.exit 0))
              (.seq (.blk 1 (.seq (.reg [
                   ⟨some 50, .cp (.v 48), none⟩,
                   ⟨some 51, .ia 1 (.v 46) (.v 48), none⟩,
                   ⟨some 52, .ld false 1 (.v 51), none⟩,
                   ⟨some 14, .cp (.v 50), none⟩,
                   ⟨some 15, .cp (.v 52), none⟩] [3, 5, 6, 7, 8, 9, 10, 11, 12, 13, 14, 15, 46, 47, 48])
                 (.seq (.seq (.reg [
                     ⟨some 53, .cp (.v 12), none⟩,
                     ⟨some 54, .ci .eql (.v 53) (.k (.int .i64 0)), none⟩,
                     ⟨some 55, .cp (.v 54), none⟩,
                     ⟨some 56, .ld false 1 (.v 5), (some (55, true))⟩,
                     ⟨some 57, .cp (.v 15), (some (55, true))⟩,
                     ⟨some 58, .call 20 [.v 56, .v 57], (some (55, true))⟩,
                     ⟨some 59, .ci .lss (.v 58) (.k (.int .i64 0)), (some (55, true))⟩,
                     ⟨some 60, .pick (.v 55) (.v 59) (.k (.bool false)), none⟩] [3, 5, 6, 7, 8, 9, 10, 11, 12, 13, 14, 15, 46, 47, 48, 60])
                   (.cnd (.v 60) (.reg [
                      ⟨some 12, .cp (.k (.int .i64 10)), none⟩] [3, 5, 6, 7, 8, 9, 10, 11, 12, 13, 14, 15, 46, 47, 48])
                    (.skip)))
                  (.seq (.seq (.reg [
                      ⟨some 61, .cp (.v 12), none⟩,
                      ⟨some 62, .ci .eql (.v 61) (.k (.int .i64 0)), none⟩,
                      ⟨some 63, .cp (.v 62), none⟩,
                      ⟨some 64, .ld false 1 (.v 3), (some (63, true))⟩,
                      ⟨some 65, .cp (.v 14), (some (63, true))⟩,
                      ⟨some 66, .slc 1 (.v 64) none (some (.v 65)), (some (63, true))⟩,
                      ⟨some 67, .cp (.v 15), (some (63, true))⟩,
                      ⟨some 68, .call 39 [.v 66, .v 67], (some (63, true))⟩,
                      ⟨some 69, .pick (.v 63) (.v 68) (.k (.bool false)), none⟩] [3, 5, 6, 7, 8, 9, 10, 11, 12, 13, 14, 15, 46, 47, 48, 69])
                    (.cnd (.v 69) (.reg [
                       ⟨some 12, .cp (.k (.int .i64 9)), none⟩] [3, 5, 6, 7, 8, 9, 10, 11, 12, 13, 14, 15, 46, 47, 48])
                     (.skip)))
                   (.seq (.reg [
                      ⟨some 70, .cp (.v 14), none⟩,
                      ⟨some 71, .ci .gtr (.v 70) (.k (.int .i64 0)), none⟩,
                      ⟨some 72, .cp (.v 71), none⟩,
                      ⟨some 73, .cp (.v 13), (some (72, true))⟩,
                      ⟨some 74, .ci .lss (.v 73) (.k (.int .i64 0)), (some (72, true))⟩,
                      ⟨some 75, .pick (.v 72) (.v 74) (.k (.bool false)), none⟩,
                      ⟨some 76, .cp (.v 75), none⟩,
                      ⟨some 77, .ld false 1 (.v 5), (some (76, true))⟩,
                      ⟨some 78, .cp (.v 15), (some (76, true))⟩,
                      ⟨some 79, .call 20 [.v 77, .v 78], (some (76, true))⟩,
                      ⟨some 80, .ld false 1 (.v 5), (some (76, true))⟩,
                      ⟨some 81, .ld false 1 (.v 3), (some (76, true))⟩,
                      ⟨some 82, .cp (.v 14), (some (76, true))⟩,
                      ⟨some 83, .ari .sub .i64 (.v 82) (.k (.int .i64 1)), (some (76, true))⟩,
                      ⟨some 84, .ia 1 (.v 81) (.v 83), (some (76, true))⟩,
                      ⟨some 85, .ld false 1 (.v 84), (some (76, true))⟩,
                      ⟨some 86, .call 20 [.v 80, .v 85], (some (76, true))⟩,
                      ⟨some 87, .ci .leq (.v 79) (.v 86), (some (76, true))⟩,
                      ⟨some 88, .pick (.v 76) (.v 87) (.k (.bool false)), none⟩] [3, 5, 6, 7, 8, 9, 10, 11, 12, 13, 14, 46, 47, 48, 88])
                    (.cnd (.v 88) (.reg [
                       ⟨some 89, .cp (.v 14), none⟩,
                       ⟨some 13, .cp (.v 89), none⟩] [3, 5, 6, 7, 8, 9, 10, 11, 12, 13, 46, 47, 48])
                     (.skip)))))))
               (.reg [
                 ⟨some 90, .ari .add .i64 (.v 48) (.k (.int .i64 1)), none⟩,
                 ⟨some 48, .cp (.v 90), none⟩] [3, 5, 6, 7, 8, 9, 10, 11, 12, 13, 46, 47, 48])))))))
         (.seq (.seq (.reg [
             ⟨some 91, .cp (.v 11), none⟩] [3, 5, 6, 7, 8, 9, 10, 12, 13, 91])
           (.cnd (.v 91) (.seq (.reg [
               ⟨some 92, .cp (.v 10), none⟩,
               ⟨some 93, .ci .neq (.v 92) (.k (.int .i64 10)), none⟩,
               ⟨some 94, .cp (.v 93), none⟩,
               ⟨some 95, .cp (.v 8), (some (94, false))⟩,
               ⟨some 96, .ci .neq (.v 95) (.k (.int .i64 0)), (some (94, false))⟩,
               ⟨some 97, .pick (.v 94) (.k (.bool true)) (.v 96), none⟩,
               ⟨some 98, .cp (.v 97), none⟩,
               ⟨some 99, .cp (.v 9), (some (98, false))⟩,
               ⟨some 100, .pick (.v 98) (.k (.bool true)) (.v 99), none⟩] [3, 5, 6, 7, 12, 100])
             (.cnd (.v 100) (.seq (.reg [
                 ⟨some 4, .cp (.k (.bool false)), none⟩] [4])
               (.ret))
              (.skip)))
            (.seq (.reg [
               ⟨some 101, .cp (.v 10), none⟩,
               ⟨some 102, .ci .neq (.v 101) (.k (.int .i64 0)), none⟩,
               ⟨some 103, .cp (.v 102), none⟩,
               ⟨some 104, .cp (.v 9), (some (103, false))⟩,
               ⟨some 105, .cp (.v 13), (some (103, false))⟩,
               ⟨some 106, .ci .lss (.v 105) (.k (.int .i64 0)), (some (103, false))⟩,
               ⟨some 107, .eqb true (.v 104) (.v 106), (some (103, false))⟩,
               ⟨some 108, .pick (.v 103) (.k (.bool true)) (.v 107), none⟩,
               ⟨some 109, .cp (.v 108), none⟩,
               ⟨some 110, .cp (.v 8), (some (109, false))⟩,
               ⟨some 111, .cp (.v 13), (some (109, false))⟩,
               ⟨some 112, .mm true [.v 111, .k (.int .i64 0)], (some (109, false))⟩,
               ⟨some 113, .ci .neq (.v 110) (.v 112), (some (109, false))⟩,
               ⟨some 114, .pick (.v 109) (.k (.bool true)) (.v 113), none⟩] [3, 5, 6, 7, 12, 114])
             (.cnd (.v 114) (.seq (.reg [
                 ⟨some 4, .cp (.k (.bool false)), none⟩] [4])
               (.ret))
              (.skip)))))
          (.seq (.seq (.reg [
              ⟨some 115, .cp (.v 12), none⟩,
              ⟨some 116, .ci .neq (.v 115) (.k (.int .i64 0)), none⟩] [3, 5, 6, 7, 12, 116])
            (.cnd (.v 116) (.seq (.reg [
                ⟨some 117, .cp (.v 7), none⟩,
                ⟨some 118, .cp (.v 12), none⟩,
                ⟨some 119, .ci .eql (.v 117) (.v 118), none⟩,
                ⟨some 120, .cp (.v 119), none⟩,
                ⟨some 121, .cp (.v 6), (some (120, true))⟩,
                ⟨some 122, .len (.v 121), (some (120, true))⟩,
                ⟨some 123, .ci .eql (.v 122) (.k (.int .i64 0)), (some (120, true))⟩,
                ⟨some 124, .pick (.v 120) (.v 123) (.k (.bool false)), none⟩,
                ⟨some 4, .cp (.v 124), none⟩] [4])
              (.ret))
             (.skip)))
           (.seq (.cus [125, 126, 127, 128, 16] (dfT Tryz.prog Tryz.L 5 3 16 41 42 40 39 [6, 7]))
            (.seq (.reg [
               ⟨some 129, .cp (.v 7), none⟩,
               ⟨some 130, .ci .eql (.v 129) (.k (.int .i64 0)), none⟩,
               ⟨some 131, .cp (.v 130), none⟩,
               ⟨some 132, .cp (.v 6), (some (131, true))⟩,
               ⟨some 133, .cp (.v 16), (some (131, true))⟩,
               ⟨some 134, .call 18 [.v 132, .v 133], (some (131, true))⟩,
               ⟨some 135, .pick (.v 131) (.v 134) (.k (.bool false)), none⟩,
               ⟨some 4, .cp (.v 135), none⟩] [4])
             (.ret)))))))))))))
def rs9 : List RV := [.t 4]
theorem chk9 : chkFnR Tryz.prog Tryz.f9 2 pc9 rs9 = true := by kernel_rfl
theorem rule9 {L : World → Prop} (hL : ∀ w w', L w → Below w.heap.size w w' → L w') (hbk : ∀ q ∈ pc9.backs, IsBack Tryz.prog q.1 q.2.1 q.2.2) (hcu : ∀ c, Tryz.f9.body = some c → ∀ q ∈ cusL c pc9, CusOk Tryz.prog L q.1 q.2.1 q.2.2) {ds : List D} {r : D} (hr0 : aliasOf r = none) (hlen : ds.length = 2) (hp : ds.all (fun d => (aliasOf d).isNone) = true)
    (h : wC (Con Tryz.prog L) pc9 (retQ rs9 r) (initE 0 ds)) : Con Tryz.prog L 9 ds r :=
  con_chkR hL Tryz.func9 chk9 hbk hcu hr0 hlen hp (wC_sound h)

end Go.Proofs
