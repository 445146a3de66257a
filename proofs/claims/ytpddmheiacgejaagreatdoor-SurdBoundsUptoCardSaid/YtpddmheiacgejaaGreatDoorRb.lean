/- The pure readings of functions of this seat, printed by program (pcfile.py). Own work. -/
import Derived.Test.YtpddmheiacgejaaGreatDoorProg
import Derived.Test.YtpddmheiacgejaaGreatDoorRa
import Derived.Test.YtpddmheiacgejaaGreatDoorPj
import Derived.KernelRfl
namespace Go.Proofs
open Go Go.Pi Go.RowKit
set_option maxRecDepth 100000
/-- (klippe/surd.Surd).sign -/
def pc77 : PC := .seq (.reg [ ⟨some 2,.cp (.k (.int .i64 0)),none⟩] [0]) (.seq (.seq (.reg [ ⟨some 7,.cp (.v 0),none⟩,⟨some 8,.len (.v 7),none⟩,⟨some 9,.ci .eql (.v 8) (.k (.int .i64 0)),none⟩] [0,9]) (.cnd (.v 9) (.seq (.reg [ ⟨some 2,.cp (.k (.int .i64 0)),none⟩] [2]) (.ret)) (.skip))) (.seq (.reg [ ⟨some 3,.cp (.k (.int .i64 16)),none⟩] [0,3]) (.blk 0 (.loop (.seq (.blk 1 (.seq (.reg [ ⟨some 13,.cp (.v 0),none⟩,⟨some 14,.cp (.v 3),none⟩,⟨some 15,.call 106 [.v 13,.v 14],none⟩,⟨some 12,.cp (.v 15),none⟩,⟨some 16,.ext 12 0,none⟩,⟨some 17,.ext 12 1,none⟩,⟨some 18,.ext 12 2,none⟩,⟨some 4,.cp (.v 16),none⟩,⟨some 5,.cp (.v 17),none⟩,⟨some 6,.cp (.v 18),none⟩] [0,3,4,5]) (.blk 2 (.seq (.reg [ ⟨some 20,.cp (.v 4),none⟩,⟨some 21,.call 102 [.v 20],none⟩,⟨some 22,.ci .gtr (.v 21) (.k (.int .i64 0)),none⟩,⟨some 19,.cp (.v 22),none⟩] [0,3,5,19]) (.cnd (.v 19) (.seq (.reg [ ⟨some 2,.cp (.k (.int .i64 1)),none⟩] [2]) (.ret)) (.seq (.reg [ ⟨some 24,.cp (.v 5),none⟩,⟨some 25,.call 102 [.v 24],none⟩,⟨some 26,.ci .lss (.v 25) (.k (.int .i64 0)),none⟩,⟨some 23,.cp (.v 26),none⟩] [0,3,23]) (.cnd (.v 23) (.seq (.reg [ ⟨some 2,.cp (.k (.int .i64 (-1))),none⟩] [2]) (.ret)) (.skip)))))))) (.reg [ ⟨some 10,.cp (.v 3),none⟩,⟨some 11,.ari .mul .i64 (.v 10) (.k (.int .i64 2)),none⟩,⟨some 3,.cp (.v 11),none⟩] [0,3]))))))
def rs77 : List RV := [.t 2]
theorem chk77 : chkFn Tryz.prog Tryz.f77 1 pc77 rs77 = true := by kernel_rfl
theorem rule77 {L : World → Prop} (hL : ∀ w w', L w → Below w.heap.size w w' → L w') {ds : List D} {r : D} (hr0 : aliasOf r = none) (hlen : ds.length = 1) (hp : ds.all (fun d => (aliasOf d).isNone) = true)
    (h : wC (Con Tryz.prog L) pc77 (retQ rs77 r) (initE 0 ds)) : Con Tryz.prog L 77 ds r :=
  con_chk hL Tryz.func77 chk77 hr0 hlen hp (wC_sound h)

/-- klippe/klipperef03.Alike -/
def pc78 : PC := .seq (.reg [ ⟨some 4,.cp (.k (.str [])),none⟩,⟨some 5,.cp (.k (.bool false)),none⟩] [0,1]) (.seq (.reg [ ⟨some 6,.cp (.v 0),none⟩,⟨some 7,.cp (.v 1),none⟩,⟨some 8,.call 44 [.v 6,.v 7],none⟩,⟨some 9,.call 53 [.v 8],none⟩,⟨some 10,.ext 9 0,none⟩,⟨some 11,.ext 9 1,none⟩,⟨some 4,.cp (.v 10),none⟩,⟨some 5,.cp (.v 11),none⟩] [4,5]) (.ret))
def rs78 : List RV := [.t 4, .t 5]
theorem chk78 : chkFn Tryz.prog Tryz.f78 2 pc78 rs78 = true := by kernel_rfl
theorem rule78 {L : World → Prop} (hL : ∀ w w', L w → Below w.heap.size w w' → L w') {ds : List D} {r : D} (hr0 : aliasOf r = none) (hlen : ds.length = 2) (hp : ds.all (fun d => (aliasOf d).isNone) = true)
    (h : wC (Con Tryz.prog L) pc78 (retQ rs78 r) (initE 0 ds)) : Con Tryz.prog L 78 ds r :=
  con_chk hL Tryz.func78 chk78 hr0 hlen hp (wC_sound h)

/-- klippe/klipperef03.Plus -/
def pc79 : PC := .seq (.reg [ ⟨some 4,.cp (.k (.str [])),none⟩] [0,1]) (.seq (.reg [ ⟨some 12,.cp (.v 0),none⟩,⟨some 13,.call 19 [.v 12],none⟩,⟨some 11,.cp (.v 13),none⟩,⟨some 14,.ext 11 0,none⟩,⟨some 15,.ext 11 1,none⟩,⟨some 16,.ext 11 2,none⟩,⟨some 5,.cp (.v 14),none⟩,⟨some 6,.cp (.v 15),none⟩,⟨some 7,.cp (.v 16),none⟩] [1,5,6]) (.seq (.reg [ ⟨some 18,.cp (.v 1),none⟩,⟨some 19,.call 19 [.v 18],none⟩,⟨some 17,.cp (.v 19),none⟩,⟨some 20,.ext 17 0,none⟩,⟨some 21,.ext 17 1,none⟩,⟨some 22,.ext 17 2,none⟩,⟨some 8,.cp (.v 20),none⟩,⟨some 9,.cp (.v 21),none⟩,⟨some 10,.cp (.v 22),none⟩] [5,6,8,9]) (.seq (.reg [ ⟨some 23,.cp (.v 5),none⟩,⟨some 24,.cp (.v 9),none⟩,⟨some 25,.call 44 [.v 23,.v 24],none⟩,⟨some 26,.cp (.v 8),none⟩,⟨some 27,.cp (.v 6),none⟩,⟨some 28,.call 44 [.v 26,.v 27],none⟩,⟨some 29,.call 24 [.v 25,.v 28],none⟩,⟨some 30,.cp (.v 6),none⟩,⟨some 31,.cp (.v 9),none⟩,⟨some 32,.call 44 [.v 30,.v 31],none⟩,⟨some 33,.call 25 [.v 29,.v 32],none⟩,⟨some 4,.cp (.v 33),none⟩] [4]) (.ret))))
def rs79 : List RV := [.t 4]
theorem chk79 : chkFn Tryz.prog Tryz.f79 2 pc79 rs79 = true := by kernel_rfl
theorem rule79 {L : World → Prop} (hL : ∀ w w', L w → Below w.heap.size w w' → L w') {ds : List D} {r : D} (hr0 : aliasOf r = none) (hlen : ds.length = 2) (hp : ds.all (fun d => (aliasOf d).isNone) = true)
    (h : wC (Con Tryz.prog L) pc79 (retQ rs79 r) (initE 0 ds)) : Con Tryz.prog L 79 ds r :=
  con_chk hL Tryz.func79 chk79 hr0 hlen hp (wC_sound h)

/-- klippe/klipperef03.insert -/
def pc80 : PC := .seq (.reg [ ⟨some 3,.bx 2 (.v 1),none⟩,⟨some 4,.nil 39,none⟩] [0,3]) (.seq (.reg [ ⟨some 5,.nil 39,none⟩] [0,3,5]) (.seq (.reg [ ⟨some 6,.cp (.k (.bool false)),none⟩] [0,3,5,6]) (.seq (.seq (.reg [ ⟨some 7,.cp (.k (.int .i64 0)),none⟩] [0,3,5,6,7]) (.blk 0 (.loop (.seq (.seq (.reg [ ⟨some 8,.cp (.v 7),none⟩,⟨some 9,.cp (.v 0),none⟩,⟨some 10,.len (.v 9),none⟩,⟨some 11,.ci .lss (.v 8) (.v 10),none⟩] [0,3,5,6,7,11]) (.cnd (.v 11) (.skip) (.exit 0))) (.seq (.blk 1 (.seq (.seq (.reg [ ⟨some 14,.cp (.v 6),none⟩,⟨some 15,.not (.v 14),none⟩,⟨some 16,.cp (.v 15),none⟩,⟨some 17,.fa 1 (.v 3),(some (16,true))⟩,⟨some 18,.ld false 1 (.o 17 3),(some (16,true))⟩,⟨some 19,.cp (.v 0),(some (16,true))⟩,⟨some 20,.cp (.v 7),(some (16,true))⟩,⟨some 21,.ia 2 (.v 19) (.v 20),(some (16,true))⟩,⟨some 22,.fa 1 (.v 21),(some (16,true))⟩,⟨some 23,.ld false 1 (.o 22 21),(some (16,true))⟩,⟨some 24,.call 43 [.v 18,.v 23],(some (16,true))⟩,⟨some 25,.ci .lss (.v 24) (.k (.int .i64 0)),(some (16,true))⟩,⟨some 26,.pick (.v 16) (.v 25) (.k (.bool false)),none⟩] [0,3,5,6,7,26]) (.cnd (.v 26) (.reg [ ⟨some 27,.tk 5,none⟩,⟨some 28,.ld true 2 (.v 3),none⟩,⟨some 29,.bldS 39 [.str [],.str []] 1 [(0,2,.v 28)],none⟩,⟨some 30,.app 39 2 32 (.v 27) (.v 29),none⟩,⟨some 5,.tk 30,none⟩,⟨some 6,.cp (.k (.bool true)),none⟩] [0,3,5,6,7]) (.skip))) (.reg [ ⟨some 31,.tk 5,none⟩,⟨some 32,.cp (.v 0),none⟩,⟨some 33,.cp (.v 7),none⟩,⟨some 34,.ia 2 (.v 32) (.v 33),none⟩,⟨some 35,.ld true 2 (.v 34),none⟩,⟨some 36,.bldS 39 [.str [],.str []] 1 [(0,2,.v 35)],none⟩,⟨some 37,.app 39 2 32 (.v 31) (.v 36),none⟩,⟨some 5,.tk 37,none⟩] [0,3,5,6,7]))) (.reg [ ⟨some 12,.cp (.v 7),none⟩,⟨some 13,.ari .add .i64 (.v 12) (.k (.int .i64 1)),none⟩,⟨some 7,.cp (.v 13),none⟩] [0,3,5,6,7])))))) (.seq (.seq (.reg [ ⟨some 38,.cp (.v 6),none⟩,⟨some 39,.not (.v 38),none⟩] [3,5,39]) (.cnd (.v 39) (.reg [ ⟨some 40,.tk 5,none⟩,⟨some 41,.ld true 2 (.v 3),none⟩,⟨some 42,.bldS 39 [.str [],.str []] 1 [(0,2,.v 41)],none⟩,⟨some 43,.app 39 2 32 (.v 40) (.v 42),none⟩,⟨some 5,.tk 43,none⟩] [5]) (.skip))) (.seq (.reg [ ⟨some 44,.tk 5,none⟩,⟨some 4,.tk 44,none⟩] [4]) (.ret))))))
def rs80 : List RV := [.t 4]
theorem chk80 : chkFn Tryz.prog Tryz.f80 2 pc80 rs80 = true := by kernel_rfl
theorem rule80 {L : World → Prop} (hL : ∀ w w', L w → Below w.heap.size w w' → L w') {ds : List D} {r : D} (hr0 : aliasOf r = none) (hlen : ds.length = 2) (hp : ds.all (fun d => (aliasOf d).isNone) = true)
    (h : wC (Con Tryz.prog L) pc80 (retQ rs80 r) (initE 0 ds)) : Con Tryz.prog L 80 ds r :=
  con_chk hL Tryz.func80 chk80 hr0 hlen hp (wC_sound h)

/-- klippe/klipperef01.Sub -/
def pc84 : PC := .seq (.reg [ ⟨some 4,.cp (.k (.str [])),none⟩] [0,1]) (.seq (.reg [ ⟨some 5,.cp (.v 0),none⟩,⟨some 6,.cp (.v 1),none⟩,⟨some 7,.call 33 [.v 6],none⟩,⟨some 8,.call 24 [.v 5,.v 7],none⟩,⟨some 4,.cp (.v 8),none⟩] [4]) (.ret))
def rs84 : List RV := [.t 4]
theorem chk84 : chkFn Tryz.prog Tryz.f84 2 pc84 rs84 = true := by kernel_rfl
theorem rule84 {L : World → Prop} (hL : ∀ w w', L w → Below w.heap.size w w' → L w') {ds : List D} {r : D} (hr0 : aliasOf r = none) (hlen : ds.length = 2) (hp : ds.all (fun d => (aliasOf d).isNone) = true)
    (h : wC (Con Tryz.prog L) pc84 (retQ rs84 r) (initE 0 ds)) : Con Tryz.prog L 84 ds r :=
  con_chk hL Tryz.func84 chk84 hr0 hlen hp (wC_sound h)

/-- klippe/klipperef01.Small -/
def pc85 : PC := .seq (.reg [ ⟨some 2,.cp (.k (.int .i64 0)),none⟩,⟨some 3,.cp (.k (.bool false)),none⟩] [0]) (.seq (.reg [ ⟨some 10,.cp (.v 0),none⟩,⟨some 11,.call 65 [.v 10],none⟩,⟨some 9,.cp (.v 11),none⟩,⟨some 12,.ext 9 0,none⟩,⟨some 13,.ext 9 1,none⟩,⟨some 4,.cp (.v 12),none⟩,⟨some 5,.cp (.v 13),none⟩] [4,5]) (.seq (.seq (.reg [ ⟨some 14,.cp (.v 5),none⟩,⟨some 15,.lenS (.v 14),none⟩,⟨some 16,.ci .gtr (.v 15) (.k (.int .i64 19)),none⟩] [4,5,16]) (.cnd (.v 16) (.seq (.reg [ ⟨some 2,.cp (.k (.int .i64 0)),none⟩,⟨some 3,.cp (.k (.bool false)),none⟩] [2,3]) (.ret)) (.skip))) (.seq (.reg [ ⟨some 6,.cp (.k (.int .i64 0)),none⟩] [4,5,6]) (.seq (.seq (.reg [ ⟨some 7,.cp (.k (.int .i64 0)),none⟩] [4,5,6,7]) (.blk 0 (.loop (.seq (.seq (.reg [ ⟨some 17,.cp (.v 7),none⟩,⟨some 18,.cp (.v 5),none⟩,⟨some 19,.lenS (.v 18),none⟩,⟨some 20,.ci .lss (.v 17) (.v 19),none⟩] [4,5,6,7,20]) (.cnd (.v 20) (.skip) (.exit 0))) (.seq (.blk 1 (.seq (.reg [ ⟨some 23,.cp (.v 5),none⟩,⟨some 24,.cp (.v 7),none⟩,⟨some 25,.ix (.v 23) (.v 24),none⟩,⟨some 26,.cvI .i64 (.v 25),none⟩,⟨some 27,.ari .sub .i64 (.v 26) (.k (.int .i64 48)),none⟩,⟨some 8,.cp (.v 27),none⟩] [4,5,6,7,8]) (.seq (.seq (.reg [ ⟨some 28,.cp (.v 6),none⟩,⟨some 29,.cp (.v 8),none⟩,⟨some 30,.ari .add .i64 (.k (.int .i64 (-9223372036854775808))) (.v 29),none⟩,⟨some 31,.ari .quo .i64 (.v 30) (.k (.int .i64 10)),none⟩,⟨some 32,.ci .lss (.v 28) (.v 31),none⟩] [4,5,6,7,8,32]) (.cnd (.v 32) (.seq (.reg [ ⟨some 2,.cp (.k (.int .i64 0)),none⟩,⟨some 3,.cp (.k (.bool false)),none⟩] [2,3]) (.ret)) (.skip))) (.reg [ ⟨some 33,.cp (.v 6),none⟩,⟨some 34,.ari .mul .i64 (.k (.int .i64 10)) (.v 33),none⟩,⟨some 35,.cp (.v 8),none⟩,⟨some 36,.ari .sub .i64 (.v 34) (.v 35),none⟩,⟨some 6,.cp (.v 36),none⟩] [4,5,6,7])))) (.reg [ ⟨some 21,.cp (.v 7),none⟩,⟨some 22,.ari .add .i64 (.v 21) (.k (.int .i64 1)),none⟩,⟨some 7,.cp (.v 22),none⟩] [4,5,6,7])))))) (.seq (.blk 2 (.seq (.reg [ ⟨some 38,.cp (.v 4),none⟩,⟨some 37,.cp (.v 38),none⟩] [6,37]) (.cnd (.v 37) (.seq (.reg [ ⟨some 39,.cp (.v 6),none⟩,⟨some 2,.cp (.v 39),none⟩,⟨some 3,.cp (.k (.bool true)),none⟩] [2,3]) (.ret)) (.seq (.reg [ ⟨some 41,.cp (.v 6),none⟩,⟨some 42,.ci .eql (.v 41) (.k (.int .i64 (-9223372036854775808))),none⟩,⟨some 40,.cp (.v 42),none⟩] [6,40]) (.cnd (.v 40) (.seq (.reg [ ⟨some 2,.cp (.k (.int .i64 0)),none⟩,⟨some 3,.cp (.k (.bool false)),none⟩] [2,3]) (.ret)) (.skip)))))) (.seq (.reg [ ⟨some 43,.cp (.v 6),none⟩,⟨some 44,.ng .i64 (.v 43),none⟩,⟨some 2,.cp (.v 44),none⟩,⟨some 3,.cp (.k (.bool true)),none⟩] [2,3]) (.ret)))))))
def rs85 : List RV := [.t 2, .t 3]
theorem chk85 : chkFn Tryz.prog Tryz.f85 1 pc85 rs85 = true := by kernel_rfl
theorem rule85 {L : World → Prop} (hL : ∀ w w', L w → Below w.heap.size w w' → L w') {ds : List D} {r : D} (hr0 : aliasOf r = none) (hlen : ds.length = 1) (hp : ds.all (fun d => (aliasOf d).isNone) = true)
    (h : wC (Con Tryz.prog L) pc85 (retQ rs85 r) (initE 0 ds)) : Con Tryz.prog L 85 ds r :=
  con_chk hL Tryz.func85 chk85 hr0 hlen hp (wC_sound h)

/-- klippe/klipperef01.times -/
def pc86 : PC := .seq (.reg [ ⟨some 4,.nil 3,none⟩] [0,1]) (.seq (.reg [ ⟨some 8,.cp (.v 0),none⟩,⟨some 9,.len (.v 8),none⟩,⟨some 10,.cp (.v 1),none⟩,⟨some 11,.len (.v 10),none⟩,⟨some 12,.ari .add .i64 (.v 9) (.v 11),none⟩,⟨some 13,.mkS 3 [.int .i64 0] 8 (.v 12) (.v 12),none⟩,⟨some 5,.tk 13,none⟩] [0,1,5]) (.seq (.seq (.reg [ ⟨some 6,.cp (.k (.int .i64 0)),none⟩] [0,1,5,6]) (.blk 0 (.loop (.seq (.seq (.reg [ ⟨some 14,.cp (.v 6),none⟩,⟨some 15,.cp (.v 0),none⟩,⟨some 16,.len (.v 15),none⟩,⟨some 17,.ci .lss (.v 14) (.v 16),none⟩] [0,1,5,6,17]) (.cnd (.v 17) (.skip) (.exit 0))) (.seq (.blk 1 (.seq (.reg [ ⟨some 7,.cp (.k (.int .i64 0)),none⟩] [0,1,5,6,7]) (.blk 2 (.loop (.seq (.seq (.reg [ ⟨some 20,.cp (.v 7),none⟩,⟨some 21,.cp (.v 1),none⟩,⟨some 22,.len (.v 21),none⟩,⟨some 23,.ci .lss (.v 20) (.v 22),none⟩] [0,1,5,6,7,23]) (.cnd (.v 23) (.skip) (.exit 2))) (.seq (.blk 3 (.reg [ ⟨some 26,.mv (.v 5),none⟩,⟨some 27,.cp (.v 6),none⟩,⟨some 28,.cp (.v 7),none⟩,⟨some 29,.ari .add .i64 (.v 27) (.v 28),none⟩,⟨some 30,.ia 1 (.o 26 5) (.v 29),none⟩,⟨some 31,.ld false 1 (.o 30 5),none⟩,⟨some 32,.cp (.v 0),none⟩,⟨some 33,.cp (.v 6),none⟩,⟨some 34,.ia 1 (.v 32) (.v 33),none⟩,⟨some 35,.ld false 1 (.v 34),none⟩,⟨some 36,.cp (.v 1),none⟩,⟨some 37,.cp (.v 7),none⟩,⟨some 38,.ia 1 (.v 36) (.v 37),none⟩,⟨some 39,.ld false 1 (.v 38),none⟩,⟨some 40,.ari .mul .i64 (.v 35) (.v 39),none⟩,⟨some 41,.ari .add .i64 (.v 31) (.v 40),none⟩,⟨some 42,.ia 1 (.o 26 5) (.v 29),none⟩,⟨none,.st 1 (.o 42 5) (.v 41),none⟩] [0,1,5,6,7])) (.reg [ ⟨some 24,.cp (.v 7),none⟩,⟨some 25,.ari .add .i64 (.v 24) (.k (.int .i64 1)),none⟩,⟨some 7,.cp (.v 25),none⟩] [0,1,5,6,7]))))))) (.reg [ ⟨some 18,.cp (.v 6),none⟩,⟨some 19,.ari .add .i64 (.v 18) (.k (.int .i64 1)),none⟩,⟨some 6,.cp (.v 19),none⟩] [0,1,5,6])))))) (.seq (.reg [ ⟨some 43,.tk 5,none⟩,⟨some 44,.call 114 [.v 43],none⟩,⟨some 4,.tk 44,none⟩] [4]) (.ret))))
def rs86 : List RV := [.t 4]
theorem chk86 : chkFn Tryz.prog Tryz.f86 2 pc86 rs86 = true := by kernel_rfl
theorem rule86 {L : World → Prop} (hL : ∀ w w', L w → Below w.heap.size w w' → L w') {ds : List D} {r : D} (hr0 : aliasOf r = none) (hlen : ds.length = 2) (hp : ds.all (fun d => (aliasOf d).isNone) = true)
    (h : wC (Con Tryz.prog L) pc86 (retQ rs86 r) (initE 0 ds)) : Con Tryz.prog L 86 ds r :=
  con_chk hL Tryz.func86 chk86 hr0 hlen hp (wC_sound h)

/-- strings.Cut -/
def pc87 : PC := .seq (.reg [ ⟨some 4,.cp (.k (.str [])),none⟩,⟨some 5,.cp (.k (.str [])),none⟩,⟨some 6,.cp (.k (.bool false)),none⟩] [0,1]) (.seq (.reg [ ⟨some 7,.cp (.v 0),none⟩,⟨some 8,.cp (.v 1),none⟩,⟨some 9,.call 126 [.v 7,.v 8],none⟩,⟨some 10,.ext 9 0,none⟩,⟨some 11,.ext 9 1,none⟩,⟨some 12,.ext 9 2,none⟩,⟨some 4,.cp (.v 10),none⟩,⟨some 5,.cp (.v 11),none⟩,⟨some 6,.cp (.v 12),none⟩] [4,5,6]) (.ret))
def rs87 : List RV := [.t 4, .t 5, .t 6]
theorem chk87 : chkFn Tryz.prog Tryz.f87 2 pc87 rs87 = true := by kernel_rfl
theorem rule87 {L : World → Prop} (hL : ∀ w w', L w → Below w.heap.size w w' → L w') {ds : List D} {r : D} (hr0 : aliasOf r = none) (hlen : ds.length = 2) (hp : ds.all (fun d => (aliasOf d).isNone) = true)
    (h : wC (Con Tryz.prog L) pc87 (retQ rs87 r) (initE 0 ds)) : Con Tryz.prog L 87 ds r :=
  con_chk hL Tryz.func87 chk87 hr0 hlen hp (wC_sound h)

/-- klippe/integer.Check -/
def pc88 : PC := .seq (.reg [ ⟨some 2,.cp (.k (.int .i64 0)),none⟩] [0]) (.seq (.reg [ ⟨some 7,.cp (.v 0),none⟩,⟨some 8,.call 127 [.v 7,.k (.str [45])],none⟩,⟨some 6,.cp (.v 8),none⟩,⟨some 9,.ext 6 0,none⟩,⟨some 10,.ext 6 1,none⟩,⟨some 3,.cp (.v 9),none⟩,⟨some 4,.cp (.v 10),none⟩] [3,4]) (.seq (.seq (.reg [ ⟨some 11,.cp (.v 3),none⟩,⟨some 12,.sc .eql (.v 11) (.k (.str [])),none⟩,⟨some 13,.cp (.v 12),none⟩,⟨some 14,.cp (.v 3),(some (13,false))⟩,⟨some 15,.lenS (.v 14),(some (13,false))⟩,⟨some 16,.ci .gtr (.v 15) (.k (.int .i64 200)),(some (13,false))⟩,⟨some 17,.pick (.v 13) (.k (.bool true)) (.v 16),none⟩,⟨some 18,.cp (.v 17),none⟩,⟨some 19,.cp (.v 3),(some (18,false))⟩,⟨some 20,.ix (.v 19) (.k (.int .i64 0)),(some (18,false))⟩,⟨some 21,.ci .eql (.v 20) (.k (.int .u8 48)),(some (18,false))⟩,⟨some 22,.cp (.v 21),(some (18,false))⟩,⟨some 23,.cp (.v 3),(some (22,true))⟩,⟨some 24,.lenS (.v 23),(some (22,true))⟩,⟨some 25,.ci .gtr (.v 24) (.k (.int .i64 1)),(some (22,true))⟩,⟨some 26,.cp (.v 25),(some (22,true))⟩,⟨some 27,.cp (.v 4),(some (26,false))⟩,⟨some 28,.pick (.v 26) (.k (.bool true)) (.v 27),(some (22,true))⟩,⟨some 29,.pick (.v 22) (.v 28) (.k (.bool false)),(some (18,false))⟩,⟨some 30,.pick (.v 18) (.k (.bool true)) (.v 29),none⟩] [3,30]) (.cnd (.v 30) (.seq (.reg [ ⟨some 2,.cp (.k (.int .i64 2)),none⟩] [2]) (.ret)) (.skip))) (.seq (.seq (.reg [ ⟨some 31,.cp (.v 3),none⟩,⟨some 32,.lenS (.v 31),none⟩,⟨some 33,.cp (.k (.int .i64 0)),none⟩] [3,32,33]) (.blk 0 (.loop (.seq (.reg [ ⟨some 34,.ci .lss (.v 33) (.v 32),none⟩] [3,32,33,34]) (.seq (.cnd (.v 34) (.skip) (.exit 0)) (.seq (.blk 1 (.seq (.reg [ ⟨some 35,.cp (.v 33),none⟩,⟨some 5,.cp (.v 35),none⟩] [3,5,32,33]) (.seq (.reg [ ⟨some 36,.cp (.v 3),none⟩,⟨some 37,.cp (.v 5),none⟩,⟨some 38,.ix (.v 36) (.v 37),none⟩,⟨some 39,.ci .lss (.v 38) (.k (.int .u8 48)),none⟩,⟨some 40,.cp (.v 39),none⟩,⟨some 41,.cp (.v 3),(some (40,false))⟩,⟨some 42,.cp (.v 5),(some (40,false))⟩,⟨some 43,.ix (.v 41) (.v 42),(some (40,false))⟩,⟨some 44,.ci .gtr (.v 43) (.k (.int .u8 57)),(some (40,false))⟩,⟨some 45,.pick (.v 40) (.k (.bool true)) (.v 44),none⟩] [3,32,33,45]) (.cnd (.v 45) (.seq (.reg [ ⟨some 2,.cp (.k (.int .i64 2)),none⟩] [2]) (.ret)) (.skip))))) (.reg [ ⟨some 46,.ari .add .i64 (.v 33) (.k (.int .i64 1)),none⟩,⟨some 33,.cp (.v 46),none⟩] [3,32,33]))))))) (.seq (.reg [ ⟨some 2,.cp (.k (.int .i64 0)),none⟩] [2]) (.ret)))))
def rs88 : List RV := [.t 2]
theorem chk88 : chkFn Tryz.prog Tryz.f88 1 pc88 rs88 = true := by kernel_rfl
theorem rule88 {L : World → Prop} (hL : ∀ w w', L w → Below w.heap.size w w' → L w') {ds : List D} {r : D} (hr0 : aliasOf r = none) (hlen : ds.length = 1) (hp : ds.all (fun d => (aliasOf d).isNone) = true)
    (h : wC (Con Tryz.prog L) pc88 (retQ rs88 r) (initE 0 ds)) : Con Tryz.prog L 88 ds r :=
  con_chk hL Tryz.func88 chk88 hr0 hlen hp (wC_sound h)

/-- klippe/integer.Compare -/
def pc89 : PC := .seq (.reg [ ⟨some 4,.cp (.k (.int .i64 0)),none⟩] [0,1]) (.seq (.reg [ ⟨some 9,.cp (.v 0),none⟩,⟨some 10,.call 102 [.v 9],none⟩,⟨some 11,.cp (.v 1),none⟩,⟨some 12,.call 102 [.v 11],none⟩,⟨some 5,.cp (.v 10),none⟩,⟨some 6,.cp (.v 12),none⟩] [0,1,5,6]) (.seq (.seq (.reg [ ⟨some 13,.cp (.v 5),none⟩,⟨some 14,.cp (.v 6),none⟩,⟨some 15,.ci .neq (.v 13) (.v 14),none⟩] [0,1,5,6,15]) (.cnd (.v 15) (.seq (.seq (.reg [ ⟨some 16,.cp (.v 5),none⟩,⟨some 17,.cp (.v 6),none⟩,⟨some 18,.ci .lss (.v 16) (.v 17),none⟩] [18]) (.cnd (.v 18) (.seq (.reg [ ⟨some 4,.cp (.k (.int .i64 (-1))),none⟩] [4]) (.ret)) (.skip))) (.seq (.reg [ ⟨some 4,.cp (.k (.int .i64 1)),none⟩] [4]) (.ret))) (.skip))) (.seq (.reg [ ⟨some 19,.cp (.v 0),none⟩,⟨some 20,.call 128 [.v 19,.k (.str [45])],none⟩,⟨some 21,.cp (.v 1),none⟩,⟨some 22,.call 128 [.v 21,.k (.str [45])],none⟩,⟨some 7,.cp (.v 20),none⟩,⟨some 8,.cp (.v 22),none⟩] [5,7,8]) (.seq (.seq (.reg [ ⟨some 23,.cp (.v 7),none⟩,⟨some 24,.lenS (.v 23),none⟩,⟨some 25,.cp (.v 8),none⟩,⟨some 26,.lenS (.v 25),none⟩,⟨some 27,.ci .neq (.v 24) (.v 26),none⟩] [5,7,8,27]) (.cnd (.v 27) (.seq (.seq (.reg [ ⟨some 28,.cp (.v 7),none⟩,⟨some 29,.lenS (.v 28),none⟩,⟨some 30,.cp (.v 8),none⟩,⟨some 31,.lenS (.v 30),none⟩,⟨some 32,.ci .lss (.v 29) (.v 31),none⟩] [5,32]) (.cnd (.v 32) (.seq (.reg [ ⟨some 33,.cp (.v 5),none⟩,⟨some 34,.ng .i64 (.v 33),none⟩,⟨some 4,.cp (.v 34),none⟩] [4]) (.ret)) (.skip))) (.seq (.reg [ ⟨some 35,.cp (.v 5),none⟩,⟨some 4,.cp (.v 35),none⟩] [4]) (.ret))) (.skip))) (.seq (.reg [ ⟨some 36,.cp (.v 5),none⟩,⟨some 37,.cp (.v 7),none⟩,⟨some 38,.cp (.v 8),none⟩,⟨some 39,.call 129 [.v 37,.v 38],none⟩,⟨some 40,.ari .mul .i64 (.v 36) (.v 39),none⟩,⟨some 4,.cp (.v 40),none⟩] [4]) (.ret))))))
def rs89 : List RV := [.t 4]
theorem chk89 : chkFn Tryz.prog Tryz.f89 2 pc89 rs89 = true := by kernel_rfl
theorem rule89 {L : World → Prop} (hL : ∀ w w', L w → Below w.heap.size w w' → L w') {ds : List D} {r : D} (hr0 : aliasOf r = none) (hlen : ds.length = 2) (hp : ds.all (fun d => (aliasOf d).isNone) = true)
    (h : wC (Con Tryz.prog L) pc89 (retQ rs89 r) (initE 0 ds)) : Con Tryz.prog L 89 ds r :=
  con_chk hL Tryz.func89 chk89 hr0 hlen hp (wC_sound h)

/-- klippe/integer.Gcd -/
def pc90 : PC := .seq (.reg [ ⟨some 4,.cp (.k (.str [])),none⟩] [0,1]) (.seq (.seq (.reg [ ⟨some 14,.cp (.v 0),none⟩,⟨some 15,.call 91 [.v 14,.k (.int .i64 18)],none⟩,⟨some 13,.cp (.v 15),none⟩,⟨some 16,.ext 13 0,none⟩,⟨some 17,.ext 13 1,none⟩,⟨some 5,.cp (.v 16),none⟩,⟨some 6,.cp (.v 17),none⟩] [0,1,5,6]) (.seq (.reg [ ⟨some 18,.cp (.v 6),none⟩] [0,1,5,18]) (.cnd (.v 18) (.seq (.reg [ ⟨some 20,.cp (.v 1),none⟩,⟨some 21,.call 91 [.v 20,.k (.int .i64 18)],none⟩,⟨some 19,.cp (.v 21),none⟩,⟨some 22,.ext 19 0,none⟩,⟨some 23,.ext 19 1,none⟩,⟨some 7,.cp (.v 22),none⟩,⟨some 8,.cp (.v 23),none⟩] [0,1,5,7,8]) (.seq (.reg [ ⟨some 24,.cp (.v 8),none⟩] [0,1,5,7,24]) (.cnd (.v 24) (.seq (.blk 0 (.loop (.seq (.seq (.reg [ ⟨some 25,.cp (.v 7),none⟩,⟨some 26,.ci .neq (.v 25) (.k (.int .i64 0)),none⟩] [5,7,26]) (.cnd (.v 26) (.skip) (.exit 0))) (.blk 1 (.reg [ ⟨some 27,.cp (.v 7),none⟩,⟨some 28,.cp (.v 5),none⟩,⟨some 29,.cp (.v 7),none⟩,⟨some 30,.ari .rem .i64 (.v 28) (.v 29),none⟩,⟨some 5,.cp (.v 27),none⟩,⟨some 7,.cp (.v 30),none⟩] [5,7]))))) (.seq (.reg [ ⟨some 31,.cp (.v 5),none⟩,⟨some 32,.cp (.v 5),none⟩,⟨some 33,.ng .i64 (.v 32),none⟩,⟨some 34,.mm true [.v 31,.v 33],none⟩,⟨some 35,.call 58 [.v 34],none⟩,⟨some 4,.cp (.v 35),none⟩] [4]) (.ret))) (.skip)))) (.skip)))) (.seq (.reg [ ⟨some 36,.cp (.v 0),none⟩,⟨some 37,.call 92 [.v 36],none⟩,⟨some 38,.fld false 1 1 (.v 37),none⟩,⟨some 39,.cp (.v 1),none⟩,⟨some 40,.call 92 [.v 39],none⟩,⟨some 41,.fld false 1 1 (.v 40),none⟩,⟨some 9,.cp (.v 38),none⟩,⟨some 10,.cp (.v 41),none⟩] [9,10]) (.seq (.blk 2 (.loop (.seq (.seq (.reg [ ⟨some 42,.cp (.v 10),none⟩,⟨some 43,.len (.v 42),none⟩,⟨some 44,.ci .gtr (.v 43) (.k (.int .i64 0)),none⟩] [9,10,44]) (.cnd (.v 44) (.skip) (.exit 2))) (.blk 3 (.seq (.reg [ ⟨some 46,.cp (.v 9),none⟩,⟨some 47,.cp (.v 10),none⟩,⟨some 48,.call 130 [.v 46,.v 47],none⟩,⟨some 45,.cp (.v 48),none⟩,⟨some 49,.ext 45 0,none⟩,⟨some 50,.ext 45 1,none⟩,⟨some 11,.cp (.v 49),none⟩,⟨some 12,.cp (.v 50),none⟩] [10,12]) (.reg [ ⟨some 51,.cp (.v 10),none⟩,⟨some 52,.cp (.v 12),none⟩,⟨some 9,.cp (.v 51),none⟩,⟨some 10,.cp (.v 52),none⟩] [9,10])))))) (.seq (.reg [ ⟨some 53,.cp (.v 9),none⟩,⟨some 54,.bld [.bool false,.sl 0 []] [(0,1,.k (.bool false)),(1,1,.v 53)],none⟩,⟨some 55,.call 94 [.v 54],none⟩,⟨some 4,.cp (.v 55),none⟩] [4]) (.ret)))))
def rs90 : List RV := [.t 4]
theorem chk90 : chkFn Tryz.prog Tryz.f90 2 pc90 rs90 = true := by kernel_rfl
theorem rule90 {L : World → Prop} (hL : ∀ w w', L w → Below w.heap.size w w' → L w') {ds : List D} {r : D} (hr0 : aliasOf r = none) (hlen : ds.length = 2) (hp : ds.all (fun d => (aliasOf d).isNone) = true)
    (h : wC (Con Tryz.prog L) pc90 (retQ rs90 r) (initE 0 ds)) : Con Tryz.prog L 90 ds r :=
  con_chk hL Tryz.func90 chk90 hr0 hlen hp (wC_sound h)

/-- klippe/integer.quick -/
def pc91 : PC := .seq (.reg [ ⟨some 4,.cp (.k (.int .i64 0)),none⟩,⟨some 5,.cp (.k (.bool false)),none⟩] [0,1]) (.seq (.seq (.reg [ ⟨some 8,.cp (.v 0),none⟩,⟨some 9,.lenS (.v 8),none⟩,⟨some 10,.cp (.v 1),none⟩,⟨some 11,.ci .gtr (.v 9) (.v 10),none⟩] [0,11]) (.cnd (.v 11) (.seq (.reg [ ⟨some 4,.cp (.k (.int .i64 0)),none⟩,⟨some 5,.cp (.k (.bool false)),none⟩] [4,5]) (.ret)) (.skip))) (.seq (.reg [ ⟨some 13,.cp (.v 0),none⟩,⟨some 14,.call 131 [.v 13],none⟩,⟨some 12,.cp (.v 14),none⟩,⟨some 15,.ext 12 0,none⟩,⟨some 16,.ext 12 1,none⟩,⟨some 6,.cp (.v 15),none⟩,⟨some 7,.cp (.v 16),none⟩] [6,7]) (.seq (.reg [ ⟨some 17,.cp (.v 6),none⟩,⟨some 18,.cp (.v 7),none⟩,⟨some 19,.en false (.v 18),none⟩,⟨some 4,.cp (.v 17),none⟩,⟨some 5,.cp (.v 19),none⟩] [4,5]) (.ret))))
def rs91 : List RV := [.t 4, .t 5]
theorem chk91 : chkFn Tryz.prog Tryz.f91 2 pc91 rs91 = true := by kernel_rfl
theorem rule91 {L : World → Prop} (hL : ∀ w w', L w → Below w.heap.size w w' → L w') {ds : List D} {r : D} (hr0 : aliasOf r = none) (hlen : ds.length = 2) (hp : ds.all (fun d => (aliasOf d).isNone) = true)
    (h : wC (Con Tryz.prog L) pc91 (retQ rs91 r) (initE 0 ds)) : Con Tryz.prog L 91 ds r :=
  con_chk hL Tryz.func91 chk91 hr0 hlen hp (wC_sound h)

/-- klippe/integer.open -/
def pc92 : PC := .seq (.reg [ ⟨some 2,.alloc [.bool false,.sl 0 []],none⟩] [0,2]) (.seq (.reg [ ⟨some 10,.cp (.v 0),none⟩,⟨some 11,.call 127 [.v 10,.k (.str [45])],none⟩,⟨some 9,.cp (.v 11),none⟩,⟨some 12,.ext 9 0,none⟩,⟨some 13,.ext 9 1,none⟩,⟨some 3,.cp (.v 12),none⟩,⟨some 4,.cp (.v 13),none⟩] [2,3,4]) (.seq (.reg [ ⟨some 14,.cp (.v 3),none⟩,⟨some 15,.lenS (.v 14),none⟩,⟨some 16,.ari .quo .i64 (.v 15) (.k (.int .i64 9)),none⟩,⟨some 17,.ari .add .i64 (.v 16) (.k (.int .i64 1)),none⟩,⟨some 18,.mkS 168 [.int .u64 0] 8 (.k (.int .i64 0)) (.v 17),none⟩,⟨some 5,.tk 18,none⟩] [2,3,4,5]) (.seq (.blk 0 (.loop (.seq (.seq (.reg [ ⟨some 19,.cp (.v 3),none⟩,⟨some 20,.lenS (.v 19),none⟩,⟨some 21,.ci .gtr (.v 20) (.k (.int .i64 0)),none⟩] [2,3,4,5,21]) (.cnd (.v 21) (.skip) (.exit 0))) (.blk 1 (.seq (.reg [ ⟨some 22,.cp (.v 3),none⟩,⟨some 23,.lenS (.v 22),none⟩,⟨some 24,.ari .sub .i64 (.v 23) (.k (.int .i64 9)),none⟩,⟨some 25,.mm true [.v 24,.k (.int .i64 0)],none⟩,⟨some 6,.cp (.v 25),none⟩] [2,3,4,5,6]) (.seq (.reg [ ⟨some 27,.cp (.v 3),none⟩,⟨some 28,.cp (.v 6),none⟩,⟨some 29,.slS (.v 27) (some (.v 28)) none,none⟩,⟨some 30,.call 132 [.v 29,.k (.int .i64 10),.k (.int .i64 64)],none⟩,⟨some 26,.cp (.v 30),none⟩,⟨some 31,.ext 26 0,none⟩,⟨some 32,.ext 26 1,none⟩,⟨some 7,.cp (.v 31),none⟩,⟨some 8,.cp (.v 32),none⟩] [2,3,4,5,6,7]) (.reg [ ⟨some 33,.tk 5,none⟩,⟨some 34,.cp (.v 7),none⟩,⟨some 35,.bldS 168 [.int .u64 0] 1 [(0,1,.v 34)],none⟩,⟨some 36,.app 168 1 8 (.v 33) (.v 35),none⟩,⟨some 37,.cp (.v 3),none⟩,⟨some 38,.cp (.v 6),none⟩,⟨some 39,.slS (.v 37) none (some (.v 38)),none⟩,⟨some 5,.tk 36,none⟩,⟨some 3,.cp (.v 39),none⟩] [2,3,4,5]))))))) (.seq (.reg [ ⟨some 40,.cp (.v 4),none⟩,⟨some 41,.tk 5,none⟩,⟨some 42,.call 133 [.v 41],none⟩,⟨some 43,.bld [.bool false,.sl 0 []] [(0,1,.v 40),(1,1,.v 42)],none⟩,⟨none,.st 2 (.v 2) (.v 43),none⟩] [2]) (.ret)))))
def rs92 : List RV := [.c 2 true 2]
theorem chk92 : chkFn Tryz.prog Tryz.f92 1 pc92 rs92 = true := by kernel_rfl
theorem rule92 {L : World → Prop} (hL : ∀ w w', L w → Below w.heap.size w w' → L w') {ds : List D} {r : D} (hr0 : aliasOf r = none) (hlen : ds.length = 1) (hp : ds.all (fun d => (aliasOf d).isNone) = true)
    (h : wC (Con Tryz.prog L) pc92 (retQ rs92 r) (initE 0 ds)) : Con Tryz.prog L 92 ds r :=
  con_chk hL Tryz.func92 chk92 hr0 hlen hp (wC_sound h)

/-- klippe/integer.times -/
def pc93 : PC := .seq (.reg [ ⟨some 4,.nil 168,none⟩] [0,1]) (.seq (.reg [ ⟨some 12,.cp (.v 0),none⟩,⟨some 13,.len (.v 12),none⟩,⟨some 14,.cp (.v 1),none⟩,⟨some 15,.len (.v 14),none⟩,⟨some 16,.ari .add .i64 (.v 13) (.v 15),none⟩,⟨some 17,.ari .add .i64 (.v 16) (.k (.int .i64 1)),none⟩,⟨some 18,.mkS 168 [.int .u64 0] 8 (.v 17) (.v 17),none⟩,⟨some 5,.tk 18,none⟩] [0,1,5]) (.seq (.seq (.reg [ ⟨some 19,.cp (.v 0),none⟩,⟨some 20,.len (.v 19),none⟩,⟨some 21,.cp (.k (.int .i64 0)),none⟩] [1,5,19,20,21]) (.blk 0 (.loop (.seq (.reg [ ⟨some 22,.ci .lss (.v 21) (.v 20),none⟩] [1,5,19,20,21,22]) (.seq (.cnd (.v 22) (.skip) (.exit 0)) (.seq (.blk 1 (.seq (.reg [ ⟨some 23,.cp (.v 21),none⟩,⟨some 24,.ia 1 (.v 19) (.v 21),none⟩,⟨some 25,.ld false 1 (.v 24),none⟩,⟨some 6,.cp (.v 23),none⟩,⟨some 7,.cp (.v 25),none⟩] [1,5,6,7,19,20,21]) (.seq (.reg [ ⟨some 8,.cp (.k (.int .u64 0)),none⟩] [1,5,6,7,8,19,20,21]) (.seq (.seq (.reg [ ⟨some 26,.cp (.v 1),none⟩,⟨some 27,.len (.v 26),none⟩,⟨some 28,.cp (.k (.int .i64 0)),none⟩] [1,5,6,7,8,19,20,21,26,27,28]) (.blk 2 (.loop (.seq (.reg [ ⟨some 29,.ci .lss (.v 28) (.v 27),none⟩] [1,5,6,7,8,19,20,21,26,27,28,29]) (.seq (.cnd (.v 29) (.skip) (.exit 2)) (.seq (.blk 3 (.seq (.reg [ ⟨some 30,.cp (.v 28),none⟩,⟨some 31,.ia 1 (.v 26) (.v 28),none⟩,⟨some 32,.ld false 1 (.v 31),none⟩,⟨some 9,.cp (.v 30),none⟩,⟨some 10,.cp (.v 32),none⟩] [1,5,6,7,8,9,10,19,20,21,26,27,28]) (.seq (.reg [ ⟨some 33,.cp (.v 8),none⟩,⟨some 34,.mv (.v 5),none⟩,⟨some 35,.cp (.v 6),none⟩,⟨some 36,.cp (.v 9),none⟩,⟨some 37,.ari .add .i64 (.v 35) (.v 36),none⟩,⟨some 38,.ia 1 (.o 34 5) (.v 37),none⟩,⟨some 39,.ld false 1 (.o 38 5),none⟩,⟨some 40,.cp (.v 7),none⟩,⟨some 41,.cp (.v 10),none⟩,⟨some 42,.ari .mul .u64 (.v 40) (.v 41),none⟩,⟨some 43,.ari .add .u64 (.v 39) (.v 42),none⟩,⟨some 44,.ari .add .u64 (.v 33) (.v 43),none⟩,⟨some 8,.cp (.v 44),none⟩] [1,5,6,7,8,9,19,20,21,26,27,28]) (.seq (.reg [ ⟨some 45,.mv (.v 5),none⟩,⟨some 46,.cp (.v 6),none⟩,⟨some 47,.cp (.v 9),none⟩,⟨some 48,.ari .add .i64 (.v 46) (.v 47),none⟩,⟨some 49,.cp (.v 8),none⟩,⟨some 50,.ari .rem .u64 (.v 49) (.k (.int .u64 1000000000)),none⟩,⟨some 51,.ia 1 (.o 45 5) (.v 48),none⟩,⟨none,.st 1 (.o 51 5) (.v 50),none⟩] [1,5,6,7,8,19,20,21,26,27,28]) (.reg [ ⟨some 52,.cp (.v 8),none⟩,⟨some 53,.ari .quo .u64 (.v 52) (.k (.int .u64 1000000000)),none⟩,⟨some 8,.cp (.v 53),none⟩] [1,5,6,7,8,19,20,21,26,27,28]))))) (.reg [ ⟨some 54,.ari .add .i64 (.v 28) (.k (.int .i64 1)),none⟩,⟨some 28,.cp (.v 54),none⟩] [1,5,6,7,8,19,20,21,26,27,28]))))))) (.seq (.reg [ ⟨some 55,.cp (.v 6),none⟩,⟨some 56,.cp (.v 1),none⟩,⟨some 57,.len (.v 56),none⟩,⟨some 58,.ari .add .i64 (.v 55) (.v 57),none⟩,⟨some 11,.cp (.v 58),none⟩] [1,5,8,11,19,20,21]) (.blk 4 (.loop (.seq (.seq (.reg [ ⟨some 59,.cp (.v 8),none⟩,⟨some 60,.ci .gtr (.v 59) (.k (.int .u64 0)),none⟩] [1,5,8,11,19,20,21,60]) (.cnd (.v 60) (.skip) (.exit 4))) (.seq (.blk 5 (.seq (.reg [ ⟨some 63,.cp (.v 8),none⟩,⟨some 64,.mv (.v 5),none⟩,⟨some 65,.cp (.v 11),none⟩,⟨some 66,.ia 1 (.o 64 5) (.v 65),none⟩,⟨some 67,.ld false 1 (.o 66 5),none⟩,⟨some 68,.ari .add .u64 (.v 63) (.v 67),none⟩,⟨some 8,.cp (.v 68),none⟩] [1,5,8,11,19,20,21]) (.seq (.reg [ ⟨some 69,.mv (.v 5),none⟩,⟨some 70,.cp (.v 11),none⟩,⟨some 71,.cp (.v 8),none⟩,⟨some 72,.ari .rem .u64 (.v 71) (.k (.int .u64 1000000000)),none⟩,⟨some 73,.ia 1 (.o 69 5) (.v 70),none⟩,⟨none,.st 1 (.o 73 5) (.v 72),none⟩] [1,5,8,11,19,20,21]) (.reg [ ⟨some 74,.cp (.v 8),none⟩,⟨some 75,.ari .quo .u64 (.v 74) (.k (.int .u64 1000000000)),none⟩,⟨some 8,.cp (.v 75),none⟩] [1,5,8,11,19,20,21])))) (.reg [ ⟨some 61,.cp (.v 11),none⟩,⟨some 62,.ari .add .i64 (.v 61) (.k (.int .i64 1)),none⟩,⟨some 11,.cp (.v 62),none⟩] [1,5,8,11,19,20,21])))))))))) (.reg [ ⟨some 76,.ari .add .i64 (.v 21) (.k (.int .i64 1)),none⟩,⟨some 21,.cp (.v 76),none⟩] [1,5,19,20,21]))))))) (.seq (.reg [ ⟨some 77,.tk 5,none⟩,⟨some 78,.call 133 [.v 77],none⟩,⟨some 4,.tk 78,none⟩] [4]) (.ret))))
def rs93 : List RV := [.t 4]
theorem chk93 : chkFn Tryz.prog Tryz.f93 2 pc93 rs93 = true := by kernel_rfl
theorem rule93 {L : World → Prop} (hL : ∀ w w', L w → Below w.heap.size w w' → L w') {ds : List D} {r : D} (hr0 : aliasOf r = none) (hlen : ds.length = 2) (hp : ds.all (fun d => (aliasOf d).isNone) = true)
    (h : wC (Con Tryz.prog L) pc93 (retQ rs93 r) (initE 0 ds)) : Con Tryz.prog L 93 ds r :=
  con_chk hL Tryz.func93 chk93 hr0 hlen hp (wC_sound h)

/-- klippe/integer.Root -/
def pc95 : PC := .seq (.reg [ ⟨some 2,.cp (.k (.str [])),none⟩,⟨some 3,.cp (.k (.int .i64 0)),none⟩] [0]) (.seq (.seq (.reg [ ⟨some 10,.cp (.v 0),none⟩,⟨some 11,.call 102 [.v 10],none⟩,⟨some 12,.ci .lss (.v 11) (.k (.int .i64 0)),none⟩] [0,12]) (.cnd (.v 12) (.seq (.reg [ ⟨some 2,.cp (.k (.str [])),none⟩,⟨some 3,.cp (.k (.int .i64 3)),none⟩] [2,3]) (.ret)) (.skip))) (.seq (.reg [ ⟨some 13,.cp (.v 0),none⟩,⟨some 14,.call 92 [.v 13],none⟩,⟨some 15,.fld false 1 1 (.v 14),none⟩,⟨some 4,.cp (.v 15),none⟩] [4]) (.seq (.seq (.reg [ ⟨some 16,.cp (.v 4),none⟩,⟨some 17,.len (.v 16),none⟩,⟨some 18,.ci .eql (.v 17) (.k (.int .i64 0)),none⟩] [4,18]) (.cnd (.v 18) (.seq (.reg [ ⟨some 2,.cp (.k (.str [48])),none⟩,⟨some 3,.cp (.k (.int .i64 0)),none⟩] [2,3]) (.ret)) (.skip))) (.seq (.reg [ ⟨some 19,.cp (.v 4),none⟩,⟨some 20,.len (.v 19),none⟩,⟨some 21,.ari .add .i64 (.v 20) (.k (.int .i64 1)),none⟩,⟨some 22,.ari .quo .i64 (.v 21) (.k (.int .i64 2)),none⟩,⟨some 23,.mkS 168 [.int .u64 0] 8 (.v 22) (.v 22),none⟩,⟨some 24,.bldS 168 [.int .u64 0] 1 [(0,1,.k (.int .u64 1))],none⟩,⟨some 25,.app 168 1 8 (.v 23) (.v 24),none⟩,⟨some 5,.tk 25,none⟩] [4,5]) (.blk 0 (.loop (.blk 1 (.seq (.reg [ ⟨some 27,.cp (.v 4),none⟩,⟨some 28,.mv (.v 5),none⟩,⟨some 29,.call 130 [.v 27,.o 28 5],none⟩,⟨some 26,.cp (.v 29),none⟩,⟨some 30,.ext 26 0,none⟩,⟨some 31,.ext 26 1,none⟩,⟨some 6,.cp (.v 30),none⟩,⟨some 7,.cp (.v 31),none⟩] [4,5,6]) (.seq (.reg [ ⟨some 33,.mv (.v 5),none⟩,⟨some 34,.cp (.v 6),none⟩,⟨some 35,.call 108 [.o 33 5,.v 34],none⟩,⟨some 36,.bldS 168 [.int .u64 0] 1 [(0,1,.k (.int .u64 2))],none⟩,⟨some 37,.call 130 [.v 35,.v 36],none⟩,⟨some 32,.cp (.v 37),none⟩,⟨some 38,.ext 32 0,none⟩,⟨some 39,.ext 32 1,none⟩,⟨some 8,.cp (.v 38),none⟩,⟨some 9,.cp (.v 39),none⟩] [4,5,8]) (.seq (.seq (.reg [ ⟨some 40,.cp (.v 8),none⟩,⟨some 41,.mv (.v 5),none⟩,⟨some 42,.call 109 [.v 40,.o 41 5],none⟩,⟨some 43,.ci .geq (.v 42) (.k (.int .i64 0)),none⟩] [4,5,8,43]) (.cnd (.v 43) (.seq (.reg [ ⟨some 44,.sh (.v 5),none⟩,⟨some 45,.bld [.bool false,.sl 0 []] [(0,1,.k (.bool false)),(1,1,.v 44)],none⟩,⟨some 46,.call 94 [.v 45],none⟩,⟨some 2,.cp (.v 46),none⟩,⟨some 3,.cp (.k (.int .i64 0)),none⟩] [2,3]) (.ret)) (.skip))) (.reg [ ⟨some 47,.cp (.v 8),none⟩,⟨some 5,.cp (.v 47),none⟩] [4,5])))))))))))
def rs95 : List RV := [.t 2, .t 3]
theorem chk95 : chkFn Tryz.prog Tryz.f95 1 pc95 rs95 = true := by kernel_rfl
theorem rule95 {L : World → Prop} (hL : ∀ w w', L w → Below w.heap.size w w' → L w') {ds : List D} {r : D} (hr0 : aliasOf r = none) (hlen : ds.length = 1) (hp : ds.all (fun d => (aliasOf d).isNone) = true)
    (h : wC (Con Tryz.prog L) pc95 (retQ rs95 r) (initE 0 ds)) : Con Tryz.prog L 95 ds r :=
  con_chk hL Tryz.func95 chk95 hr0 hlen hp (wC_sound h)

/-- klippe/rational.New -/
def pc96 : PC := .seq (.reg [ ⟨some 4,.cp (.k (.str [])),none⟩,⟨some 5,.cp (.k (.int .i64 0)),none⟩] [0,1]) (.seq (.seq (.reg [ ⟨some 6,.cp (.v 1),none⟩,⟨some 7,.call 102 [.v 6],none⟩,⟨some 8,.ci .eql (.v 7) (.k (.int .i64 0)),none⟩] [0,1,8]) (.cnd (.v 8) (.seq (.reg [ ⟨some 4,.cp (.k (.str [])),none⟩,⟨some 5,.cp (.k (.int .i64 17)),none⟩] [4,5]) (.ret)) (.skip))) (.seq (.reg [ ⟨some 9,.cp (.v 0),none⟩,⟨some 10,.cp (.v 1),none⟩,⟨some 11,.call 119 [.v 9,.v 10],none⟩,⟨some 4,.cp (.v 11),none⟩,⟨some 5,.cp (.k (.int .i64 0)),none⟩] [4,5]) (.ret)))
def rs96 : List RV := [.t 4, .t 5]
theorem chk96 : chkFn Tryz.prog Tryz.f96 2 pc96 rs96 = true := by kernel_rfl
theorem rule96 {L : World → Prop} (hL : ∀ w w', L w → Below w.heap.size w w' → L w') {ds : List D} {r : D} (hr0 : aliasOf r = none) (hlen : ds.length = 2) (hp : ds.all (fun d => (aliasOf d).isNone) = true)
    (h : wC (Con Tryz.prog L) pc96 (retQ rs96 r) (initE 0 ds)) : Con Tryz.prog L 96 ds r :=
  con_chk hL Tryz.func96 chk96 hr0 hlen hp (wC_sound h)

/-- slices.ContainsFunc[klippe/surd.Surd,klippe/surd.Term] -/
def pc97 : PC := .seq (.reg [ ⟨some 4,.cp (.k (.bool false)),none⟩] [0,1]) (.seq (.reg [ ⟨some 5,.cp (.v 0),none⟩,⟨some 6,.cp (.v 1),none⟩,⟨some 7,.call 137 [.v 5,.v 6],none⟩,⟨some 8,.ci .geq (.v 7) (.k (.int .i64 0)),none⟩,⟨some 4,.cp (.v 8),none⟩] [4]) (.ret))
def rs97 : List RV := [.t 4]
theorem chk97 : chkFn Tryz.prog Tryz.f97 2 pc97 rs97 = true := by kernel_rfl
theorem rule97 {L : World → Prop} (hL : ∀ w w', L w → Below w.heap.size w w' → L w') {ds : List D} {r : D} (hr0 : aliasOf r = none) (hlen : ds.length = 2) (hp : ds.all (fun d => (aliasOf d).isNone) = true)
    (h : wC (Con Tryz.prog L) pc97 (retQ rs97 r) (initE 0 ds)) : Con Tryz.prog L 97 ds r :=
  con_chk hL Tryz.func97 chk97 hr0 hlen hp (wC_sound h)

/-- klippe/surd.result$1 -/
def pc98 : PC := .seq (.reg [ ⟨some 1,.bx 2 (.v 0),none⟩,⟨some 2,.cp (.k (.bool false)),none⟩] [1]) (.seq (.reg [ ⟨some 3,.fa 0 (.v 1),none⟩,⟨some 4,.ld false 1 (.o 3 1),none⟩,⟨some 5,.call 45 [.v 4],none⟩,⟨some 6,.ci .neq (.v 5) (.k (.int .i64 0)),none⟩,⟨some 7,.cp (.v 6),none⟩,⟨some 8,.fa 1 (.v 1),(some (7,false))⟩,⟨some 9,.ld false 1 (.o 8 1),(some (7,false))⟩,⟨some 10,.call 88 [.v 9],(some (7,false))⟩,⟨some 11,.ci .neq (.v 10) (.k (.int .i64 0)),(some (7,false))⟩,⟨some 12,.pick (.v 7) (.k (.bool true)) (.v 11),none⟩,⟨some 2,.cp (.v 12),none⟩] [2]) (.ret))
def rs98 : List RV := [.t 2]
theorem chk98 : chkFn Tryz.prog Tryz.f98 1 pc98 rs98 = true := by kernel_rfl
theorem rule98 {L : World → Prop} (hL : ∀ w w', L w → Below w.heap.size w w' → L w') {ds : List D} {r : D} (hr0 : aliasOf r = none) (hlen : ds.length = 1) (hp : ds.all (fun d => (aliasOf d).isNone) = true)
    (h : wC (Con Tryz.prog L) pc98 (retQ rs98 r) (initE 0 ds)) : Con Tryz.prog L 98 ds r :=
  con_chk hL Tryz.func98 chk98 hr0 hlen hp (wC_sound h)

/-- klippe/klipperef01.Root -/
def pc99 : PC := .seq (.reg [ ⟨some 2,.cp (.k (.str [])),none⟩] [0]) (.seq (.seq (.reg [ ⟨some 8,.cp (.v 0),none⟩,⟨some 9,.sc .eql (.v 8) (.k (.str [48])),none⟩] [0,9]) (.cnd (.v 9) (.seq (.reg [ ⟨some 10,.cp (.v 0),none⟩,⟨some 2,.cp (.v 10),none⟩] [2]) (.ret)) (.skip))) (.seq (.reg [ ⟨some 11,.cp (.v 0),none⟩,⟨some 12,.lenS (.v 11),none⟩,⟨some 13,.ari .add .i64 (.v 12) (.k (.int .i64 1)),none⟩,⟨some 14,.ari .quo .i64 (.v 13) (.k (.int .i64 2)),none⟩,⟨some 15,.call 138 [.k (.str [49,48]),.v 14],none⟩,⟨some 3,.cp (.v 15),none⟩] [0,3]) (.blk 0 (.loop (.blk 1 (.seq (.reg [ ⟨some 17,.cp (.v 0),none⟩,⟨some 18,.cp (.v 3),none⟩,⟨some 19,.call 62 [.v 17,.v 18],none⟩,⟨some 16,.cp (.v 19),none⟩,⟨some 20,.ext 16 0,none⟩,⟨some 21,.ext 16 1,none⟩,⟨some 4,.cp (.v 20),none⟩,⟨some 5,.cp (.v 21),none⟩] [0,3,4]) (.seq (.reg [ ⟨some 23,.cp (.v 3),none⟩,⟨some 24,.cp (.v 4),none⟩,⟨some 25,.call 24 [.v 23,.v 24],none⟩,⟨some 26,.call 62 [.v 25,.k (.str [50])],none⟩,⟨some 22,.cp (.v 26),none⟩,⟨some 27,.ext 22 0,none⟩,⟨some 28,.ext 22 1,none⟩,⟨some 6,.cp (.v 27),none⟩,⟨some 7,.cp (.v 28),none⟩] [0,3,6]) (.seq (.seq (.reg [ ⟨some 29,.cp (.v 6),none⟩,⟨some 30,.cp (.v 3),none⟩,⟨some 31,.call 43 [.v 29,.v 30],none⟩,⟨some 32,.ci .geq (.v 31) (.k (.int .i64 0)),none⟩] [0,3,6,32]) (.cnd (.v 32) (.seq (.reg [ ⟨some 33,.cp (.v 3),none⟩,⟨some 2,.cp (.v 33),none⟩] [2]) (.ret)) (.skip))) (.reg [ ⟨some 34,.cp (.v 6),none⟩,⟨some 3,.cp (.v 34),none⟩] [0,3])))))))))
def rs99 : List RV := [.t 2]
theorem chk99 : chkFn Tryz.prog Tryz.f99 1 pc99 rs99 = true := by kernel_rfl
theorem rule99 {L : World → Prop} (hL : ∀ w w', L w → Below w.heap.size w w' → L w') {ds : List D} {r : D} (hr0 : aliasOf r = none) (hlen : ds.length = 1) (hp : ds.all (fun d => (aliasOf d).isNone) = true)
    (h : wC (Con Tryz.prog L) pc99 (retQ rs99 r) (initE 0 ds)) : Con Tryz.prog L 99 ds r :=
  con_chk hL Tryz.func99 chk99 hr0 hlen hp (wC_sound h)

/-- klippe/klipperef01.Canonical -/
def pc100 : PC := .seq (.reg [ ⟨some 2,.cp (.k (.bool false)),none⟩] [0]) (.seq (.reg [ ⟨some 7,.cp (.v 0),none⟩,⟨some 8,.call 65 [.v 7],none⟩,⟨some 6,.cp (.v 8),none⟩,⟨some 9,.ext 6 0,none⟩,⟨some 10,.ext 6 1,none⟩,⟨some 3,.cp (.v 9),none⟩,⟨some 4,.cp (.v 10),none⟩] [3,4]) (.seq (.seq (.reg [ ⟨some 5,.cp (.k (.int .i64 0)),none⟩] [3,4,5]) (.blk 0 (.loop (.seq (.seq (.reg [ ⟨some 11,.cp (.v 5),none⟩,⟨some 12,.cp (.v 4),none⟩,⟨some 13,.lenS (.v 12),none⟩,⟨some 14,.ci .lss (.v 11) (.v 13),none⟩] [3,4,5,14]) (.cnd (.v 14) (.skip) (.exit 0))) (.seq (.blk 1 (.seq (.reg [ ⟨some 17,.cp (.v 4),none⟩,⟨some 18,.cp (.v 5),none⟩,⟨some 19,.ix (.v 17) (.v 18),none⟩,⟨some 20,.ci .lss (.v 19) (.k (.int .u8 48)),none⟩,⟨some 21,.cp (.v 20),none⟩,⟨some 22,.cp (.v 4),(some (21,false))⟩,⟨some 23,.cp (.v 5),(some (21,false))⟩,⟨some 24,.ix (.v 22) (.v 23),(some (21,false))⟩,⟨some 25,.ci .gtr (.v 24) (.k (.int .u8 57)),(some (21,false))⟩,⟨some 26,.pick (.v 21) (.k (.bool true)) (.v 25),none⟩] [3,4,5,26]) (.cnd (.v 26) (.seq (.reg [ ⟨some 2,.cp (.k (.bool false)),none⟩] [2]) (.ret)) (.skip)))) (.reg [ ⟨some 15,.cp (.v 5),none⟩,⟨some 16,.ari .add .i64 (.v 15) (.k (.int .i64 1)),none⟩,⟨some 5,.cp (.v 16),none⟩] [3,4,5])))))) (.seq (.seq (.reg [ ⟨some 27,.cp (.v 4),none⟩,⟨some 28,.lenS (.v 27),none⟩,⟨some 29,.ci .eql (.v 28) (.k (.int .i64 0)),none⟩,⟨some 30,.cp (.v 29),none⟩,⟨some 31,.cp (.v 4),(some (30,false))⟩,⟨some 32,.ix (.v 31) (.k (.int .i64 0)),(some (30,false))⟩,⟨some 33,.ci .eql (.v 32) (.k (.int .u8 48)),(some (30,false))⟩,⟨some 34,.cp (.v 33),(some (30,false))⟩,⟨some 35,.cp (.v 3),(some (34,true))⟩,⟨some 36,.cp (.v 35),(some (34,true))⟩,⟨some 37,.cp (.v 4),(some (36,false))⟩,⟨some 38,.lenS (.v 37),(some (36,false))⟩,⟨some 39,.ci .gtr (.v 38) (.k (.int .i64 1)),(some (36,false))⟩,⟨some 40,.pick (.v 36) (.k (.bool true)) (.v 39),(some (34,true))⟩,⟨some 41,.pick (.v 34) (.v 40) (.k (.bool false)),(some (30,false))⟩,⟨some 42,.pick (.v 30) (.k (.bool true)) (.v 41),none⟩] [42]) (.cnd (.v 42) (.seq (.reg [ ⟨some 2,.cp (.k (.bool false)),none⟩] [2]) (.ret)) (.skip))) (.seq (.reg [ ⟨some 2,.cp (.k (.bool true)),none⟩] [2]) (.ret)))))
def rs100 : List RV := [.t 2]
theorem chk100 : chkFn Tryz.prog Tryz.f100 1 pc100 rs100 = true := by kernel_rfl
theorem rule100 {L : World → Prop} (hL : ∀ w w', L w → Below w.heap.size w w' → L w') {ds : List D} {r : D} (hr0 : aliasOf r = none) (hlen : ds.length = 1) (hp : ds.all (fun d => (aliasOf d).isNone) = true)
    (h : wC (Con Tryz.prog L) pc100 (retQ rs100 r) (initE 0 ds)) : Con Tryz.prog L 100 ds r :=
  con_chk hL Tryz.func100 chk100 hr0 hlen hp (wC_sound h)

/-- klippe/klipperef01.Abs -/
def pc101 : PC := .seq (.reg [ ⟨some 2,.cp (.k (.str [])),none⟩] [0]) (.seq (.reg [ ⟨some 6,.cp (.v 0),none⟩,⟨some 7,.call 65 [.v 6],none⟩,⟨some 5,.cp (.v 7),none⟩,⟨some 8,.ext 5 0,none⟩,⟨some 9,.ext 5 1,none⟩,⟨some 3,.cp (.v 8),none⟩,⟨some 4,.cp (.v 9),none⟩] [4]) (.seq (.reg [ ⟨some 10,.cp (.v 4),none⟩,⟨some 2,.cp (.v 10),none⟩] [2]) (.ret)))
def rs101 : List RV := [.t 2]
theorem chk101 : chkFn Tryz.prog Tryz.f101 1 pc101 rs101 = true := by kernel_rfl
theorem rule101 {L : World → Prop} (hL : ∀ w w', L w → Below w.heap.size w w' → L w') {ds : List D} {r : D} (hr0 : aliasOf r = none) (hlen : ds.length = 1) (hp : ds.all (fun d => (aliasOf d).isNone) = true)
    (h : wC (Con Tryz.prog L) pc101 (retQ rs101 r) (initE 0 ds)) : Con Tryz.prog L 101 ds r :=
  con_chk hL Tryz.func101 chk101 hr0 hlen hp (wC_sound h)

/-- klippe/integer.Sign -/
def pc102 : PC := .seq (.reg [ ⟨some 2,.cp (.k (.int .i64 0)),none⟩] [0]) (.seq (.blk 0 (.seq (.reg [ ⟨some 4,.cp (.v 0),none⟩,⟨some 5,.sc .eql (.v 4) (.k (.str [48])),none⟩,⟨some 3,.cp (.v 5),none⟩] [0,3]) (.cnd (.v 3) (.seq (.reg [ ⟨some 2,.cp (.k (.int .i64 0)),none⟩] [2]) (.ret)) (.seq (.reg [ ⟨some 7,.cp (.v 0),none⟩,⟨some 8,.call 139 [.v 7,.k (.str [45])],none⟩,⟨some 6,.cp (.v 8),none⟩] [6]) (.cnd (.v 6) (.seq (.reg [ ⟨some 2,.cp (.k (.int .i64 (-1))),none⟩] [2]) (.ret)) (.skip)))))) (.seq (.reg [ ⟨some 2,.cp (.k (.int .i64 1)),none⟩] [2]) (.ret)))
def rs102 : List RV := [.t 2]
theorem chk102 : chkFn Tryz.prog Tryz.f102 1 pc102 rs102 = true := by kernel_rfl
theorem rule102 {L : World → Prop} (hL : ∀ w w', L w → Below w.heap.size w w' → L w') {ds : List D} {r : D} (hr0 : aliasOf r = none) (hlen : ds.length = 1) (hp : ds.all (fun d => (aliasOf d).isNone) = true)
    (h : wC (Con Tryz.prog L) pc102 (retQ rs102 r) (initE 0 ds)) : Con Tryz.prog L 102 ds r :=
  con_chk hL Tryz.func102 chk102 hr0 hlen hp (wC_sound h)

/-- klippe/surd.Check$1 -/
def pc103 : PC := .seq (.reg [ ⟨some 2,.bx 2 (.v 0),none⟩,⟨some 3,.cp (.k (.bool false)),none⟩] [1,2]) (.seq (.reg [ ⟨some 7,.fa 1 (.v 2),none⟩,⟨some 8,.ld false 1 (.o 7 2),none⟩,⟨some 9,.fa 1 (.v 1),none⟩,⟨some 10,.ld false 1 (.v 9),none⟩,⟨some 11,.call 104 [.v 8,.v 10],none⟩,⟨some 6,.cp (.v 11),none⟩,⟨some 12,.ext 6 0,none⟩,⟨some 13,.ext 6 1,none⟩,⟨some 4,.cp (.v 12),none⟩,⟨some 5,.cp (.v 13),none⟩] [5]) (.seq (.reg [ ⟨some 14,.cp (.v 5),none⟩,⟨some 3,.cp (.v 14),none⟩] [3]) (.ret)))
def rs103 : List RV := [.t 3]
theorem chk103 : chkFn Tryz.prog Tryz.f103 2 pc103 rs103 = true := by kernel_rfl
theorem rule103 {L : World → Prop} (hL : ∀ w w', L w → Below w.heap.size w w' → L w') {ds : List D} {r : D} (hr0 : aliasOf r = none) (hlen : ds.length = 2) (hp : ds.all (fun d => (aliasOf d).isNone) = true)
    (h : wC (Con Tryz.prog L) pc103 (retQ rs103 r) (initE 0 ds)) : Con Tryz.prog L 103 ds r :=
  con_chk hL Tryz.func103 chk103 hr0 hlen hp (wC_sound h)

/-- klippe/surd.alike -/
def pc104 : PC := .seq (.reg [ ⟨some 4,.cp (.k (.str [])),none⟩,⟨some 5,.cp (.k (.bool false)),none⟩] [0,1]) (.seq (.seq (.reg [ ⟨some 6,.cp (.v 0),none⟩,⟨some 7,.cp (.v 1),none⟩,⟨some 8,.sc .eql (.v 6) (.v 7),none⟩] [0,1,8]) (.cnd (.v 8) (.seq (.reg [ ⟨some 9,.cp (.v 0),none⟩,⟨some 4,.cp (.v 9),none⟩,⟨some 5,.cp (.k (.bool true)),none⟩] [4,5]) (.ret)) (.skip))) (.seq (.reg [ ⟨some 10,.cp (.v 0),none⟩,⟨some 11,.cp (.v 1),none⟩,⟨some 12,.call 48 [.v 10,.v 11],none⟩,⟨some 13,.call 49 [.v 12],none⟩,⟨some 14,.ext 13 0,none⟩,⟨some 15,.ext 13 1,none⟩,⟨some 4,.cp (.v 14),none⟩,⟨some 5,.cp (.v 15),none⟩] [4,5]) (.ret)))
def rs104 : List RV := [.t 4, .t 5]
theorem chk104 : chkFn Tryz.prog Tryz.f104 2 pc104 rs104 = true := by kernel_rfl
theorem rule104 {L : World → Prop} (hL : ∀ w w', L w → Below w.heap.size w w' → L w') {ds : List D} {r : D} (hr0 : aliasOf r = none) (hlen : ds.length = 2) (hp : ds.all (fun d => (aliasOf d).isNone) = true)
    (h : wC (Con Tryz.prog L) pc104 (retQ rs104 r) (initE 0 ds)) : Con Tryz.prog L 104 ds r :=
  con_chk hL Tryz.func104 chk104 hr0 hlen hp (wC_sound h)

/-- klippe/integer.DivMod -/
def pc105 : PC := .seq (.reg [ ⟨some 4,.cp (.k (.str [])),none⟩,⟨some 5,.cp (.k (.str [])),none⟩,⟨some 6,.cp (.k (.int .i64 0)),none⟩] [0,1]) (.seq (.seq (.reg [ ⟨some 11,.cp (.v 1),none⟩,⟨some 12,.sc .eql (.v 11) (.k (.str [48])),none⟩] [0,1,12]) (.cnd (.v 12) (.seq (.reg [ ⟨some 4,.cp (.k (.str [])),none⟩,⟨some 5,.cp (.k (.str [])),none⟩,⟨some 6,.cp (.k (.int .i64 17)),none⟩] [4,5,6]) (.ret)) (.skip))) (.seq (.reg [ ⟨some 13,.cp (.v 0),none⟩,⟨some 14,.call 92 [.v 13],none⟩,⟨some 15,.cp (.v 1),none⟩,⟨some 16,.call 92 [.v 15],none⟩,⟨some 7,.alloc [.bool false,.sl 0 []],none⟩,⟨some 8,.alloc [.bool false,.sl 0 []],none⟩,⟨none,.st 2 (.v 7) (.v 14),none⟩,⟨none,.st 2 (.v 8) (.v 16),none⟩] [7,8]) (.seq (.reg [ ⟨some 18,.fa 1 (.v 7),none⟩,⟨some 19,.ld false 1 (.o 18 7),none⟩,⟨some 20,.fa 1 (.v 8),none⟩,⟨some 21,.ld false 1 (.o 20 8),none⟩,⟨some 22,.call 130 [.v 19,.v 21],none⟩,⟨some 17,.cp (.v 22),none⟩,⟨some 23,.ext 17 0,none⟩,⟨some 24,.ext 17 1,none⟩,⟨some 9,.cp (.v 23),none⟩,⟨some 10,.cp (.v 24),none⟩] [7,8,9,10]) (.seq (.seq (.reg [ ⟨some 25,.fa 0 (.v 7),none⟩,⟨some 26,.ld false 1 (.o 25 7),none⟩,⟨some 27,.cp (.v 26),none⟩,⟨some 28,.mv (.v 10),(some (27,true))⟩,⟨some 29,.len (.o 28 10),(some (27,true))⟩,⟨some 30,.ci .gtr (.v 29) (.k (.int .i64 0)),(some (27,true))⟩,⟨some 31,.pick (.v 27) (.v 30) (.k (.bool false)),none⟩] [7,8,9,10,31]) (.cnd (.v 31) (.reg [ ⟨some 32,.sh (.v 9),none⟩,⟨some 33,.bldS 168 [.int .u64 0] 1 [(0,1,.k (.int .u64 1))],none⟩,⟨some 34,.call 108 [.v 32,.v 33],none⟩,⟨some 35,.fa 1 (.v 8),none⟩,⟨some 36,.ld false 1 (.o 35 8),none⟩,⟨some 37,.sh (.v 10),none⟩,⟨some 38,.call 110 [.v 36,.v 37],none⟩,⟨some 9,.tk 34,none⟩,⟨some 10,.tk 38,none⟩] [7,8,9,10]) (.skip))) (.seq (.reg [ ⟨some 39,.fa 0 (.v 7),none⟩,⟨some 40,.ld false 1 (.o 39 7),none⟩,⟨some 41,.fa 0 (.v 8),none⟩,⟨some 42,.ld false 1 (.o 41 8),none⟩,⟨some 43,.eqb true (.v 40) (.v 42),none⟩,⟨some 44,.sh (.v 9),none⟩,⟨some 45,.bld [.bool false,.sl 0 []] [(0,1,.v 43),(1,1,.v 44)],none⟩,⟨some 46,.call 94 [.v 45],none⟩,⟨some 47,.sh (.v 10),none⟩,⟨some 48,.bld [.bool false,.sl 0 []] [(0,1,.k (.bool false)),(1,1,.v 47)],none⟩,⟨some 49,.call 94 [.v 48],none⟩,⟨some 4,.cp (.v 46),none⟩,⟨some 5,.cp (.v 49),none⟩,⟨some 6,.cp (.k (.int .i64 0)),none⟩] [4,5,6]) (.ret))))))
def rs105 : List RV := [.t 4, .t 5, .t 6]
theorem chk105 : chkFn Tryz.prog Tryz.f105 2 pc105 rs105 = true := by kernel_rfl
theorem rule105 {L : World → Prop} (hL : ∀ w w', L w → Below w.heap.size w w' → L w') {ds : List D} {r : D} (hr0 : aliasOf r = none) (hlen : ds.length = 2) (hp : ds.all (fun d => (aliasOf d).isNone) = true)
    (h : wC (Con Tryz.prog L) pc105 (retQ rs105 r) (initE 0 ds)) : Con Tryz.prog L 105 ds r :=
  con_chk hL Tryz.func105 chk105 hr0 hlen hp (wC_sound h)

/-- (klippe/surd.Surd).enclose -/
def pc106 : PC := .seq (.reg [ ⟨some 4,.cp (.k (.str [])),none⟩,⟨some 5,.cp (.k (.str [])),none⟩,⟨some 6,.cp (.k (.str [])),none⟩] [0,1]) (.seq (.reg [ ⟨some 6,.cp (.k (.str [49])),none⟩] [0,1,6]) (.seq (.seq (.reg [ ⟨some 24,.cp (.v 0),none⟩,⟨some 25,.len (.v 24),none⟩,⟨some 26,.cp (.k (.int .i64 0)),none⟩] [0,1,6,24,25,26]) (.blk 0 (.loop (.seq (.reg [ ⟨some 27,.ci .lss (.v 26) (.v 25),none⟩] [0,1,6,24,25,26,27]) (.seq (.cnd (.v 27) (.skip) (.exit 0)) (.seq (.blk 1 (.seq (.reg [ ⟨some 28,.ia 2 (.v 24) (.v 26),none⟩,⟨some 29,.ld true 2 (.v 28),none⟩,⟨some 8,.alloc [.str [],.str []],none⟩,⟨none,.st 2 (.v 8) (.v 29),none⟩] [0,1,6,8,24,25,26]) (.seq (.reg [ ⟨some 31,.fa 0 (.v 8),none⟩,⟨some 32,.ld false 1 (.o 31 8),none⟩,⟨some 33,.call 47 [.v 32],none⟩,⟨some 30,.cp (.v 33),none⟩,⟨some 34,.ext 30 0,none⟩,⟨some 35,.ext 30 1,none⟩,⟨some 9,.cp (.v 34),none⟩,⟨some 10,.cp (.v 35),none⟩] [0,1,6,10,24,25,26]) (.seq (.reg [ ⟨some 36,.cp (.v 6),none⟩,⟨some 37,.cp (.v 10),none⟩,⟨some 38,.call 90 [.v 36,.v 37],none⟩,⟨some 11,.cp (.v 38),none⟩] [0,1,6,10,11,24,25,26]) (.seq (.reg [ ⟨some 40,.cp (.v 10),none⟩,⟨some 41,.cp (.v 11),none⟩,⟨some 42,.call 105 [.v 40,.v 41],none⟩,⟨some 39,.cp (.v 42),none⟩,⟨some 43,.ext 39 0,none⟩,⟨some 44,.ext 39 1,none⟩,⟨some 45,.ext 39 2,none⟩,⟨some 10,.cp (.v 43),none⟩] [0,1,6,10,24,25,26]) (.reg [ ⟨some 46,.cp (.v 6),none⟩,⟨some 47,.cp (.v 10),none⟩,⟨some 48,.call 48 [.v 46,.v 47],none⟩,⟨some 6,.cp (.v 48),none⟩] [0,1,6,24,25,26])))))) (.reg [ ⟨some 49,.ari .add .i64 (.v 26) (.k (.int .i64 1)),none⟩,⟨some 26,.cp (.v 49),none⟩] [0,1,6,24,25,26]))))))) (.seq (.reg [ ⟨some 51,.cp (.v 1),none⟩,⟨some 52,.call 107 [.k (.str [52]),.v 51],none⟩,⟨some 50,.cp (.v 52),none⟩,⟨some 53,.ext 50 0,none⟩,⟨some 54,.ext 50 1,none⟩,⟨some 12,.cp (.v 53),none⟩,⟨some 13,.cp (.v 54),none⟩] [0,6,12]) (.seq (.reg [ ⟨some 4,.cp (.k (.str [48])),none⟩,⟨some 5,.cp (.k (.str [48])),none⟩] [0,4,5,6,12]) (.seq (.seq (.reg [ ⟨some 55,.cp (.v 0),none⟩,⟨some 56,.len (.v 55),none⟩,⟨some 57,.cp (.k (.int .i64 0)),none⟩] [4,5,6,12,55,56,57]) (.blk 2 (.loop (.seq (.reg [ ⟨some 58,.ci .lss (.v 57) (.v 56),none⟩] [4,5,6,12,55,56,57,58]) (.seq (.cnd (.v 58) (.skip) (.exit 2)) (.seq (.blk 3 (.seq (.reg [ ⟨some 59,.ia 2 (.v 55) (.v 57),none⟩,⟨some 60,.ld true 2 (.v 59),none⟩,⟨some 15,.alloc [.str [],.str []],none⟩,⟨none,.st 2 (.v 15) (.v 60),none⟩] [4,5,6,12,15,55,56,57]) (.seq (.reg [ ⟨some 62,.fa 0 (.v 15),none⟩,⟨some 63,.ld false 1 (.o 62 15),none⟩,⟨some 64,.call 47 [.v 63],none⟩,⟨some 61,.cp (.v 64),none⟩,⟨some 65,.ext 61 0,none⟩,⟨some 66,.ext 61 1,none⟩,⟨some 16,.cp (.v 65),none⟩,⟨some 17,.cp (.v 66),none⟩] [4,5,6,12,15,16,17,55,56,57]) (.seq (.reg [ ⟨some 68,.cp (.v 6),none⟩,⟨some 69,.cp (.v 17),none⟩,⟨some 70,.call 105 [.v 68,.v 69],none⟩,⟨some 67,.cp (.v 70),none⟩,⟨some 71,.ext 67 0,none⟩,⟨some 72,.ext 67 1,none⟩,⟨some 73,.ext 67 2,none⟩,⟨some 18,.cp (.v 71),none⟩,⟨some 19,.cp (.v 72),none⟩,⟨some 20,.cp (.v 73),none⟩] [4,5,6,12,15,16,18,55,56,57]) (.seq (.reg [ ⟨some 74,.cp (.v 18),none⟩,⟨some 75,.cp (.v 16),none⟩,⟨some 76,.call 48 [.v 74,.v 75],none⟩,⟨some 18,.cp (.v 76),none⟩] [4,5,6,12,15,18,55,56,57]) (.seq (.reg [ ⟨some 78,.fa 1 (.v 15),none⟩,⟨some 79,.ld false 1 (.o 78 15),none⟩,⟨some 80,.cp (.v 12),none⟩,⟨some 81,.call 48 [.v 79,.v 80],none⟩,⟨some 82,.call 49 [.v 81],none⟩,⟨some 77,.cp (.v 82),none⟩,⟨some 83,.ext 77 0,none⟩,⟨some 84,.ext 77 1,none⟩,⟨some 21,.cp (.v 83),none⟩,⟨some 22,.cp (.v 84),none⟩] [4,5,6,12,18,21,22,55,56,57]) (.seq (.reg [ ⟨some 85,.cp (.v 21),none⟩,⟨some 23,.cp (.v 85),none⟩] [4,5,6,12,18,21,22,23,55,56,57]) (.seq (.seq (.reg [ ⟨some 86,.cp (.v 22),none⟩,⟨some 87,.not (.v 86),none⟩] [4,5,6,12,18,21,23,55,56,57,87]) (.cnd (.v 87) (.reg [ ⟨some 88,.cp (.v 21),none⟩,⟨some 89,.call 60 [.v 88,.k (.str [49])],none⟩,⟨some 23,.cp (.v 89),none⟩] [4,5,6,12,18,21,23,55,56,57]) (.skip))) (.seq (.seq (.reg [ ⟨some 90,.cp (.v 18),none⟩,⟨some 91,.call 102 [.v 90],none⟩,⟨some 92,.ci .lss (.v 91) (.k (.int .i64 0)),none⟩] [4,5,6,12,18,21,23,55,56,57,92]) (.cnd (.v 92) (.reg [ ⟨some 93,.cp (.v 23),none⟩,⟨some 94,.cp (.v 21),none⟩,⟨some 21,.cp (.v 93),none⟩,⟨some 23,.cp (.v 94),none⟩] [4,5,6,12,18,21,23,55,56,57]) (.skip))) (.reg [ ⟨some 95,.cp (.v 4),none⟩,⟨some 96,.cp (.v 18),none⟩,⟨some 97,.cp (.v 21),none⟩,⟨some 98,.call 48 [.v 96,.v 97],none⟩,⟨some 99,.call 60 [.v 95,.v 98],none⟩,⟨some 100,.cp (.v 5),none⟩,⟨some 101,.cp (.v 18),none⟩,⟨some 102,.cp (.v 23),none⟩,⟨some 103,.call 48 [.v 101,.v 102],none⟩,⟨some 104,.call 60 [.v 100,.v 103],none⟩,⟨some 4,.cp (.v 99),none⟩,⟨some 5,.cp (.v 104),none⟩] [4,5,6,12,55,56,57])))))))))) (.reg [ ⟨some 105,.ari .add .i64 (.v 57) (.k (.int .i64 1)),none⟩,⟨some 57,.cp (.v 105),none⟩] [4,5,6,12,55,56,57]))))))) (.seq (.reg [ ⟨some 106,.cp (.v 4),none⟩,⟨some 107,.cp (.v 5),none⟩,⟨some 108,.cp (.v 6),none⟩,⟨some 4,.cp (.v 106),none⟩,⟨some 5,.cp (.v 107),none⟩,⟨some 6,.cp (.v 108),none⟩] [4,5,6]) (.ret)))))))
def rs106 : List RV := [.t 4, .t 5, .t 6]
theorem chk106 : chkFn Tryz.prog Tryz.f106 2 pc106 rs106 = true := by kernel_rfl
theorem rule106 {L : World → Prop} (hL : ∀ w w', L w → Below w.heap.size w w' → L w') {ds : List D} {r : D} (hr0 : aliasOf r = none) (hlen : ds.length = 2) (hp : ds.all (fun d => (aliasOf d).isNone) = true)
    (h : wC (Con Tryz.prog L) pc106 (retQ rs106 r) (initE 0 ds)) : Con Tryz.prog L 106 ds r :=
  con_chk hL Tryz.func106 chk106 hr0 hlen hp (wC_sound h)

/-- klippe/integer.Power -/
def pc107 : PC := .seq (.reg [ ⟨some 4,.cp (.k (.str [])),none⟩,⟨some 5,.cp (.k (.int .i64 0)),none⟩] [0,1]) (.seq (.seq (.reg [ ⟨some 10,.cp (.v 1),none⟩,⟨some 11,.ci .lss (.v 10) (.k (.int .i64 0)),none⟩] [0,1,11]) (.cnd (.v 11) (.seq (.reg [ ⟨some 4,.cp (.k (.str [])),none⟩,⟨some 5,.cp (.k (.int .i64 3)),none⟩] [4,5]) (.ret)) (.skip))) (.seq (.seq (.reg [ ⟨some 12,.cp (.v 1),none⟩,⟨some 13,.cp (.v 0),none⟩,⟨some 14,.call 140 [.v 13],none⟩,⟨some 15,.lenS (.v 14),none⟩,⟨some 16,.ari .quo .i64 (.k (.int .i64 5000)) (.v 15),none⟩,⟨some 17,.ci .gtr (.v 12) (.v 16),none⟩] [0,1,17]) (.cnd (.v 17) (.seq (.reg [ ⟨some 4,.cp (.k (.str [])),none⟩,⟨some 5,.cp (.k (.int .i64 4)),none⟩] [4,5]) (.ret)) (.skip))) (.seq (.reg [ ⟨some 18,.bldS 168 [.int .u64 0] 1 [(0,1,.k (.int .u64 1))],none⟩,⟨some 6,.tk 18,none⟩] [0,1,6]) (.seq (.reg [ ⟨some 19,.cp (.v 0),none⟩,⟨some 20,.call 92 [.v 19],none⟩,⟨some 7,.alloc [.bool false,.sl 0 []],none⟩,⟨none,.st 2 (.v 7) (.v 20),none⟩] [1,6,7]) (.seq (.seq (.reg [ ⟨some 21,.cp (.v 1),none⟩,⟨some 22,.fa 1 (.v 7),none⟩,⟨some 23,.ld false 1 (.o 22 7),none⟩,⟨some 8,.cp (.v 21),none⟩,⟨some 9,.cp (.v 23),none⟩] [1,6,7,8,9]) (.blk 0 (.loop (.seq (.seq (.reg [ ⟨some 24,.cp (.v 8),none⟩,⟨some 25,.ci .gtr (.v 24) (.k (.int .i64 0)),none⟩] [1,6,7,8,9,25]) (.cnd (.v 25) (.skip) (.exit 0))) (.seq (.blk 1 (.seq (.seq (.reg [ ⟨some 28,.cp (.v 8),none⟩,⟨some 29,.ari .rem .i64 (.v 28) (.k (.int .i64 2)),none⟩,⟨some 30,.ci .eql (.v 29) (.k (.int .i64 1)),none⟩] [1,6,7,8,9,30]) (.cnd (.v 30) (.reg [ ⟨some 31,.sh (.v 6),none⟩,⟨some 32,.mv (.v 9),none⟩,⟨some 33,.call 93 [.v 31,.o 32 9],none⟩,⟨some 6,.tk 33,none⟩] [1,6,7,8,9]) (.skip))) (.reg [ ⟨some 34,.sh (.v 9),none⟩,⟨some 35,.sh (.v 9),none⟩,⟨some 36,.call 93 [.v 34,.v 35],none⟩,⟨some 9,.tk 36,none⟩] [1,6,7,8,9]))) (.reg [ ⟨some 26,.cp (.v 8),none⟩,⟨some 27,.ari .quo .i64 (.v 26) (.k (.int .i64 2)),none⟩,⟨some 8,.cp (.v 27),none⟩] [1,6,7,8,9])))))) (.seq (.reg [ ⟨some 37,.fa 0 (.v 7),none⟩,⟨some 38,.ld false 1 (.o 37 7),none⟩,⟨some 39,.cp (.v 38),none⟩,⟨some 40,.cp (.v 1),(some (39,true))⟩,⟨some 41,.ari .rem .i64 (.v 40) (.k (.int .i64 2)),(some (39,true))⟩,⟨some 42,.ci .eql (.v 41) (.k (.int .i64 1)),(some (39,true))⟩,⟨some 43,.pick (.v 39) (.v 42) (.k (.bool false)),none⟩,⟨some 44,.sh (.v 6),none⟩,⟨some 45,.bld [.bool false,.sl 0 []] [(0,1,.v 43),(1,1,.v 44)],none⟩,⟨some 46,.call 94 [.v 45],none⟩,⟨some 4,.cp (.v 46),none⟩,⟨some 5,.cp (.k (.int .i64 0)),none⟩] [4,5]) (.ret)))))))
def rs107 : List RV := [.t 4, .t 5]
theorem chk107 : chkFn Tryz.prog Tryz.f107 2 pc107 rs107 = true := by kernel_rfl
theorem rule107 {L : World → Prop} (hL : ∀ w w', L w → Below w.heap.size w w' → L w') {ds : List D} {r : D} (hr0 : aliasOf r = none) (hlen : ds.length = 2) (hp : ds.all (fun d => (aliasOf d).isNone) = true)
    (h : wC (Con Tryz.prog L) pc107 (retQ rs107 r) (initE 0 ds)) : Con Tryz.prog L 107 ds r :=
  con_chk hL Tryz.func107 chk107 hr0 hlen hp (wC_sound h)

/-- klippe/integer.plus -/
def pc108 : PC := .seq (.reg [ ⟨some 4,.nil 168,none⟩] [0,1]) (.seq (.seq (.reg [ ⟨some 9,.cp (.v 0),none⟩,⟨some 10,.len (.v 9),none⟩,⟨some 11,.cp (.v 1),none⟩,⟨some 12,.len (.v 11),none⟩,⟨some 13,.ci .lss (.v 10) (.v 12),none⟩] [0,1,13]) (.cnd (.v 13) (.reg [ ⟨some 14,.cp (.v 1),none⟩,⟨some 15,.cp (.v 0),none⟩,⟨some 0,.cp (.v 14),none⟩,⟨some 1,.cp (.v 15),none⟩] [0,1]) (.skip))) (.seq (.reg [ ⟨some 16,.cp (.v 0),none⟩,⟨some 17,.len (.v 16),none⟩,⟨some 18,.ari .add .i64 (.v 17) (.k (.int .i64 1)),none⟩,⟨some 19,.mkS 168 [.int .u64 0] 8 (.k (.int .i64 0)) (.v 18),none⟩,⟨some 5,.tk 19,none⟩] [0,1,5]) (.seq (.reg [ ⟨some 6,.cp (.k (.int .u64 0)),none⟩] [0,1,5,6]) (.seq (.seq (.reg [ ⟨some 20,.cp (.v 0),none⟩,⟨some 21,.len (.v 20),none⟩,⟨some 22,.cp (.k (.int .i64 0)),none⟩] [1,5,6,20,21,22]) (.blk 0 (.loop (.seq (.reg [ ⟨some 23,.ci .lss (.v 22) (.v 21),none⟩] [1,5,6,20,21,22,23]) (.seq (.cnd (.v 23) (.skip) (.exit 0)) (.seq (.blk 1 (.seq (.reg [ ⟨some 24,.cp (.v 22),none⟩,⟨some 25,.ia 1 (.v 20) (.v 22),none⟩,⟨some 26,.ld false 1 (.v 25),none⟩,⟨some 7,.cp (.v 24),none⟩,⟨some 8,.cp (.v 26),none⟩] [1,5,6,7,8,20,21,22]) (.seq (.reg [ ⟨some 27,.cp (.v 6),none⟩,⟨some 28,.cp (.v 8),none⟩,⟨some 29,.ari .add .u64 (.v 27) (.v 28),none⟩,⟨some 6,.cp (.v 29),none⟩] [1,5,6,7,20,21,22]) (.seq (.seq (.reg [ ⟨some 30,.cp (.v 7),none⟩,⟨some 31,.cp (.v 1),none⟩,⟨some 32,.len (.v 31),none⟩,⟨some 33,.ci .lss (.v 30) (.v 32),none⟩] [1,5,6,7,20,21,22,33]) (.cnd (.v 33) (.reg [ ⟨some 34,.cp (.v 6),none⟩,⟨some 35,.cp (.v 1),none⟩,⟨some 36,.cp (.v 7),none⟩,⟨some 37,.ia 1 (.v 35) (.v 36),none⟩,⟨some 38,.ld false 1 (.v 37),none⟩,⟨some 39,.ari .add .u64 (.v 34) (.v 38),none⟩,⟨some 6,.cp (.v 39),none⟩] [1,5,6,20,21,22]) (.skip))) (.seq (.reg [ ⟨some 40,.tk 5,none⟩,⟨some 41,.cp (.v 6),none⟩,⟨some 42,.ari .rem .u64 (.v 41) (.k (.int .u64 1000000000)),none⟩,⟨some 43,.bldS 168 [.int .u64 0] 1 [(0,1,.v 42)],none⟩,⟨some 44,.app 168 1 8 (.v 40) (.v 43),none⟩,⟨some 5,.tk 44,none⟩] [1,5,6,20,21,22]) (.reg [ ⟨some 45,.cp (.v 6),none⟩,⟨some 46,.ari .quo .u64 (.v 45) (.k (.int .u64 1000000000)),none⟩,⟨some 6,.cp (.v 46),none⟩] [1,5,6,20,21,22])))))) (.reg [ ⟨some 47,.ari .add .i64 (.v 22) (.k (.int .i64 1)),none⟩,⟨some 22,.cp (.v 47),none⟩] [1,5,6,20,21,22]))))))) (.seq (.reg [ ⟨some 48,.tk 5,none⟩,⟨some 49,.cp (.v 6),none⟩,⟨some 50,.bldS 168 [.int .u64 0] 1 [(0,1,.v 49)],none⟩,⟨some 51,.app 168 1 8 (.v 48) (.v 50),none⟩,⟨some 52,.call 133 [.v 51],none⟩,⟨some 4,.tk 52,none⟩] [4]) (.ret))))))
def rs108 : List RV := [.t 4]
theorem chk108 : chkFn Tryz.prog Tryz.f108 2 pc108 rs108 = true := by kernel_rfl
theorem rule108 {L : World → Prop} (hL : ∀ w w', L w → Below w.heap.size w w' → L w') {ds : List D} {r : D} (hr0 : aliasOf r = none) (hlen : ds.length = 2) (hp : ds.all (fun d => (aliasOf d).isNone) = true)
    (h : wC (Con Tryz.prog L) pc108 (retQ rs108 r) (initE 0 ds)) : Con Tryz.prog L 108 ds r :=
  con_chk hL Tryz.func108 chk108 hr0 hlen hp (wC_sound h)

/-- klippe/integer.order -/
def pc109 : PC := .seq (.reg [ ⟨some 4,.cp (.k (.int .i64 0)),none⟩] [0,1]) (.seq (.seq (.reg [ ⟨some 6,.cp (.v 0),none⟩,⟨some 7,.len (.v 6),none⟩,⟨some 8,.cp (.v 1),none⟩,⟨some 9,.len (.v 8),none⟩,⟨some 10,.ci .neq (.v 7) (.v 9),none⟩] [0,1,10]) (.cnd (.v 10) (.seq (.seq (.reg [ ⟨some 11,.cp (.v 0),none⟩,⟨some 12,.len (.v 11),none⟩,⟨some 13,.cp (.v 1),none⟩,⟨some 14,.len (.v 13),none⟩,⟨some 15,.ci .lss (.v 12) (.v 14),none⟩] [15]) (.cnd (.v 15) (.seq (.reg [ ⟨some 4,.cp (.k (.int .i64 (-1))),none⟩] [4]) (.ret)) (.skip))) (.seq (.reg [ ⟨some 4,.cp (.k (.int .i64 1)),none⟩] [4]) (.ret))) (.skip))) (.seq (.seq (.reg [ ⟨some 16,.cp (.v 0),none⟩,⟨some 17,.len (.v 16),none⟩,⟨some 18,.ari .sub .i64 (.v 17) (.k (.int .i64 1)),none⟩,⟨some 5,.cp (.v 18),none⟩] [0,1,5]) (.blk 0 (.loop (.seq (.seq (.reg [ ⟨some 19,.cp (.v 5),none⟩,⟨some 20,.ci .geq (.v 19) (.k (.int .i64 0)),none⟩] [0,1,5,20]) (.cnd (.v 20) (.skip) (.exit 0))) (.seq (.blk 1 (.seq (.reg [ ⟨some 23,.cp (.v 0),none⟩,⟨some 24,.cp (.v 5),none⟩,⟨some 25,.ia 1 (.v 23) (.v 24),none⟩,⟨some 26,.ld false 1 (.v 25),none⟩,⟨some 27,.cp (.v 1),none⟩,⟨some 28,.cp (.v 5),none⟩,⟨some 29,.ia 1 (.v 27) (.v 28),none⟩,⟨some 30,.ld false 1 (.v 29),none⟩,⟨some 31,.ci .neq (.v 26) (.v 30),none⟩] [0,1,5,31]) (.cnd (.v 31) (.seq (.seq (.reg [ ⟨some 32,.cp (.v 0),none⟩,⟨some 33,.cp (.v 5),none⟩,⟨some 34,.ia 1 (.v 32) (.v 33),none⟩,⟨some 35,.ld false 1 (.v 34),none⟩,⟨some 36,.cp (.v 1),none⟩,⟨some 37,.cp (.v 5),none⟩,⟨some 38,.ia 1 (.v 36) (.v 37),none⟩,⟨some 39,.ld false 1 (.v 38),none⟩,⟨some 40,.ci .lss (.v 35) (.v 39),none⟩] [40]) (.cnd (.v 40) (.seq (.reg [ ⟨some 4,.cp (.k (.int .i64 (-1))),none⟩] [4]) (.ret)) (.skip))) (.seq (.reg [ ⟨some 4,.cp (.k (.int .i64 1)),none⟩] [4]) (.ret))) (.skip)))) (.reg [ ⟨some 21,.cp (.v 5),none⟩,⟨some 22,.ari .sub .i64 (.v 21) (.k (.int .i64 1)),none⟩,⟨some 5,.cp (.v 22),none⟩] [0,1,5])))))) (.seq (.reg [ ⟨some 4,.cp (.k (.int .i64 0)),none⟩] [4]) (.ret))))
def rs109 : List RV := [.t 4]
theorem chk109 : chkFn Tryz.prog Tryz.f109 2 pc109 rs109 = true := by kernel_rfl
theorem rule109 {L : World → Prop} (hL : ∀ w w', L w → Below w.heap.size w w' → L w') {ds : List D} {r : D} (hr0 : aliasOf r = none) (hlen : ds.length = 2) (hp : ds.all (fun d => (aliasOf d).isNone) = true)
    (h : wC (Con Tryz.prog L) pc109 (retQ rs109 r) (initE 0 ds)) : Con Tryz.prog L 109 ds r :=
  con_chk hL Tryz.func109 chk109 hr0 hlen hp (wC_sound h)

/-- klippe/integer.minus -/
def pc110 : PC := .seq (.reg [ ⟨some 4,.nil 168,none⟩] [0,1]) (.seq (.reg [ ⟨some 10,.cp (.v 0),none⟩,⟨some 11,.len (.v 10),none⟩,⟨some 12,.mkS 168 [.int .u64 0] 8 (.k (.int .i64 0)) (.v 11),none⟩,⟨some 5,.tk 12,none⟩] [0,1,5]) (.seq (.reg [ ⟨some 6,.cp (.k (.int .u64 0)),none⟩] [0,1,5,6]) (.seq (.seq (.reg [ ⟨some 13,.cp (.v 0),none⟩,⟨some 14,.len (.v 13),none⟩,⟨some 15,.cp (.k (.int .i64 0)),none⟩] [1,5,6,13,14,15]) (.blk 0 (.loop (.seq (.reg [ ⟨some 16,.ci .lss (.v 15) (.v 14),none⟩] [1,5,6,13,14,15,16]) (.seq (.cnd (.v 16) (.skip) (.exit 0)) (.seq (.blk 1 (.seq (.reg [ ⟨some 17,.cp (.v 15),none⟩,⟨some 18,.ia 1 (.v 13) (.v 15),none⟩,⟨some 19,.ld false 1 (.v 18),none⟩,⟨some 7,.cp (.v 17),none⟩,⟨some 8,.cp (.v 19),none⟩] [1,5,6,7,8,13,14,15]) (.seq (.reg [ ⟨some 20,.cp (.v 6),none⟩,⟨some 9,.cp (.v 20),none⟩] [1,5,7,8,9,13,14,15]) (.seq (.seq (.reg [ ⟨some 21,.cp (.v 7),none⟩,⟨some 22,.cp (.v 1),none⟩,⟨some 23,.len (.v 22),none⟩,⟨some 24,.ci .lss (.v 21) (.v 23),none⟩] [1,5,7,8,9,13,14,15,24]) (.cnd (.v 24) (.reg [ ⟨some 25,.cp (.v 9),none⟩,⟨some 26,.cp (.v 1),none⟩,⟨some 27,.cp (.v 7),none⟩,⟨some 28,.ia 1 (.v 26) (.v 27),none⟩,⟨some 29,.ld false 1 (.v 28),none⟩,⟨some 30,.ari .add .u64 (.v 25) (.v 29),none⟩,⟨some 9,.cp (.v 30),none⟩] [1,5,8,9,13,14,15]) (.skip))) (.seq (.reg [ ⟨some 6,.cp (.k (.int .u64 0)),none⟩] [1,5,6,8,9,13,14,15]) (.seq (.seq (.reg [ ⟨some 31,.cp (.v 8),none⟩,⟨some 32,.cp (.v 9),none⟩,⟨some 33,.ci .lss (.v 31) (.v 32),none⟩] [1,5,6,8,9,13,14,15,33]) (.cnd (.v 33) (.reg [ ⟨some 34,.cp (.v 8),none⟩,⟨some 35,.ari .add .u64 (.v 34) (.k (.int .u64 1000000000)),none⟩,⟨some 8,.cp (.v 35),none⟩,⟨some 6,.cp (.k (.int .u64 1)),none⟩] [1,5,6,8,9,13,14,15]) (.skip))) (.reg [ ⟨some 36,.tk 5,none⟩,⟨some 37,.cp (.v 8),none⟩,⟨some 38,.cp (.v 9),none⟩,⟨some 39,.ari .sub .u64 (.v 37) (.v 38),none⟩,⟨some 40,.bldS 168 [.int .u64 0] 1 [(0,1,.v 39)],none⟩,⟨some 41,.app 168 1 8 (.v 36) (.v 40),none⟩,⟨some 5,.tk 41,none⟩] [1,5,6,13,14,15]))))))) (.reg [ ⟨some 42,.ari .add .i64 (.v 15) (.k (.int .i64 1)),none⟩,⟨some 15,.cp (.v 42),none⟩] [1,5,6,13,14,15]))))))) (.seq (.reg [ ⟨some 43,.tk 5,none⟩,⟨some 44,.call 133 [.v 43],none⟩,⟨some 4,.tk 44,none⟩] [4]) (.ret)))))
def rs110 : List RV := [.t 4]
theorem chk110 : chkFn Tryz.prog Tryz.f110 2 pc110 rs110 = true := by kernel_rfl
theorem rule110 {L : World → Prop} (hL : ∀ w w', L w → Below w.heap.size w w' → L w') {ds : List D} {r : D} (hr0 : aliasOf r = none) (hlen : ds.length = 2) (hp : ds.all (fun d => (aliasOf d).isNone) = true)
    (h : wC (Con Tryz.prog L) pc110 (retQ rs110 r) (initE 0 ds)) : Con Tryz.prog L 110 ds r :=
  con_chk hL Tryz.func110 chk110 hr0 hlen hp (wC_sound h)

/-- klippe/klipperef01.parts -/
def pc111 : PC := .seq (.reg [ ⟨some 4,.nil 3,none⟩,⟨some 5,.nil 3,none⟩] [0,1]) (.seq (.reg [ ⟨some 12,.cp (.v 0),none⟩,⟨some 13,.len (.v 12),none⟩,⟨some 14,.mkS 3 [.int .i64 0] 8 (.v 13) (.v 13),none⟩,⟨some 6,.tk 14,none⟩] [0,1,6]) (.seq (.reg [ ⟨some 7,.nil 3,none⟩] [0,1,6,7]) (.seq (.seq (.reg [ ⟨some 15,.cp (.v 0),none⟩,⟨some 16,.len (.v 15),none⟩,⟨some 17,.ari .sub .i64 (.v 16) (.k (.int .i64 1)),none⟩,⟨some 8,.cp (.v 17),none⟩] [0,1,6,7,8]) (.blk 0 (.loop (.seq (.seq (.reg [ ⟨some 18,.cp (.v 8),none⟩,⟨some 19,.ci .geq (.v 18) (.k (.int .i64 0)),none⟩] [0,1,6,7,8,19]) (.cnd (.v 19) (.skip) (.exit 0))) (.seq (.blk 1 (.seq (.reg [ ⟨some 22,.cp (.v 0),none⟩,⟨some 23,.cp (.v 8),none⟩,⟨some 24,.ia 1 (.v 22) (.v 23),none⟩,⟨some 25,.ld false 1 (.v 24),none⟩,⟨some 26,.bldS 3 [.int .i64 0] 1 [(0,1,.v 25)],none⟩,⟨some 27,.sh (.v 7),none⟩,⟨some 28,.app 3 1 8 (.v 26) (.v 27),none⟩,⟨some 29,.call 112 [.v 28],none⟩,⟨some 7,.tk 29,none⟩] [0,1,6,7,8]) (.seq (.reg [ ⟨some 9,.cp (.k (.int .i64 0)),none⟩,⟨some 10,.cp (.k (.int .i64 9999)),none⟩] [0,1,6,7,8,9,10]) (.seq (.blk 2 (.loop (.seq (.seq (.reg [ ⟨some 30,.cp (.v 9),none⟩,⟨some 31,.cp (.v 10),none⟩,⟨some 32,.ci .lss (.v 30) (.v 31),none⟩] [0,1,6,7,8,9,10,32]) (.cnd (.v 32) (.skip) (.exit 2))) (.blk 3 (.seq (.reg [ ⟨some 33,.cp (.v 9),none⟩,⟨some 34,.cp (.v 10),none⟩,⟨some 35,.ari .add .i64 (.v 33) (.v 34),none⟩,⟨some 36,.ari .add .i64 (.v 35) (.k (.int .i64 1)),none⟩,⟨some 37,.ari .quo .i64 (.v 36) (.k (.int .i64 2)),none⟩,⟨some 11,.cp (.v 37),none⟩] [0,1,6,7,8,9,10,11]) (.seq (.reg [ ⟨some 38,.mv (.v 7),none⟩,⟨some 39,.cp (.v 1),none⟩,⟨some 40,.cp (.v 11),none⟩,⟨some 41,.call 68 [.k (.sl 0 []),.v 39,.v 40,.k (.int .i64 0)],none⟩,⟨some 42,.call 69 [.o 38 7,.v 41],none⟩] [0,1,6,7,8,9,10,11,42]) (.cnd (.v 42) (.reg [ ⟨some 43,.cp (.v 11),none⟩,⟨some 44,.ari .sub .i64 (.v 43) (.k (.int .i64 1)),none⟩,⟨some 10,.cp (.v 44),none⟩] [0,1,6,7,8,9,10]) (.reg [ ⟨some 45,.cp (.v 11),none⟩,⟨some 9,.cp (.v 45),none⟩] [0,1,6,7,8,9,10])))))))) (.seq (.reg [ ⟨some 46,.mv (.v 6),none⟩,⟨some 47,.cp (.v 8),none⟩,⟨some 48,.cp (.v 9),none⟩,⟨some 49,.ia 1 (.o 46 6) (.v 47),none⟩,⟨none,.st 1 (.o 49 6) (.v 48),none⟩] [0,1,6,7,8,9]) (.reg [ ⟨some 50,.sh (.v 7),none⟩,⟨some 51,.cp (.v 1),none⟩,⟨some 52,.cp (.v 9),none⟩,⟨some 53,.ng .i64 (.v 52),none⟩,⟨some 54,.call 68 [.v 50,.v 51,.v 53,.k (.int .i64 0)],none⟩,⟨some 7,.tk 54,none⟩] [0,1,6,7,8])))))) (.reg [ ⟨some 20,.cp (.v 8),none⟩,⟨some 21,.ari .sub .i64 (.v 20) (.k (.int .i64 1)),none⟩,⟨some 8,.cp (.v 21),none⟩] [0,1,6,7,8])))))) (.seq (.reg [ ⟨some 55,.tk 6,none⟩,⟨some 56,.call 112 [.v 55],none⟩,⟨some 57,.tk 7,none⟩,⟨some 4,.tk 56,none⟩,⟨some 5,.tk 57,none⟩] [4,5]) (.ret)))))
def rs111 : List RV := [.t 4, .t 5]
theorem chk111 : chkFn Tryz.prog Tryz.f111 2 pc111 rs111 = true := by kernel_rfl
theorem rule111 {L : World → Prop} (hL : ∀ w w', L w → Below w.heap.size w w' → L w') {ds : List D} {r : D} (hr0 : aliasOf r = none) (hlen : ds.length = 2) (hp : ds.all (fun d => (aliasOf d).isNone) = true)
    (h : wC (Con Tryz.prog L) pc111 (retQ rs111 r) (initE 0 ds)) : Con Tryz.prog L 111 ds r :=
  con_chk hL Tryz.func111 chk111 hr0 hlen hp (wC_sound h)

/-- klippe/klipperef01.cut -/
def pc112 : PC := .seq (.reg [ ⟨some 2,.nil 3,none⟩] [0]) (.seq (.blk 0 (.loop (.seq (.seq (.reg [ ⟨some 3,.cp (.v 0),none⟩,⟨some 4,.len (.v 3),none⟩,⟨some 5,.ci .gtr (.v 4) (.k (.int .i64 0)),none⟩,⟨some 6,.cp (.v 5),none⟩,⟨some 7,.cp (.v 0),(some (6,true))⟩,⟨some 8,.cp (.v 0),(some (6,true))⟩,⟨some 9,.len (.v 8),(some (6,true))⟩,⟨some 10,.ari .sub .i64 (.v 9) (.k (.int .i64 1)),(some (6,true))⟩,⟨some 11,.ia 1 (.v 7) (.v 10),(some (6,true))⟩,⟨some 12,.ld false 1 (.v 11),(some (6,true))⟩,⟨some 13,.ci .eql (.v 12) (.k (.int .i64 0)),(some (6,true))⟩,⟨some 14,.pick (.v 6) (.v 13) (.k (.bool false)),none⟩] [0,14]) (.cnd (.v 14) (.skip) (.exit 0))) (.blk 1 (.reg [ ⟨some 15,.cp (.v 0),none⟩,⟨some 16,.cp (.v 0),none⟩,⟨some 17,.len (.v 16),none⟩,⟨some 18,.ari .sub .i64 (.v 17) (.k (.int .i64 1)),none⟩,⟨some 19,.slc 1 (.v 15) none (some (.v 18)),none⟩,⟨some 0,.cp (.v 19),none⟩] [0]))))) (.seq (.reg [ ⟨some 20,.cp (.v 0),none⟩,⟨some 2,.cp (.v 20),none⟩] [2]) (.ret)))
def rs112 : List RV := [.t 2]
theorem chk112 : chkFn Tryz.prog Tryz.f112 1 pc112 rs112 = true := by kernel_rfl
theorem rule112 {L : World → Prop} (hL : ∀ w w', L w → Below w.heap.size w w' → L w') {ds : List D} {r : D} (hr0 : aliasOf r = none) (hlen : ds.length = 1) (hp : ds.all (fun d => (aliasOf d).isNone) = true)
    (h : wC (Con Tryz.prog L) pc112 (retQ rs112 r) (initE 0 ds)) : Con Tryz.prog L 112 ds r :=
  con_chk hL Tryz.func112 chk112 hr0 hlen hp (wC_sound h)

/-- klippe/klipperef01.give -/
def pc113 : PC := .seq (.reg [ ⟨some 2,.cp (.k (.str [])),none⟩] [0]) (.seq (.seq (.reg [ ⟨some 6,.cp (.v 0),none⟩,⟨some 7,.len (.v 6),none⟩,⟨some 8,.ci .eql (.v 7) (.k (.int .i64 0)),none⟩] [0,8]) (.cnd (.v 8) (.seq (.reg [ ⟨some 2,.cp (.k (.str [48])),none⟩] [2]) (.ret)) (.skip))) (.seq (.reg [ ⟨some 9,.cp (.v 0),none⟩,⟨some 10,.cp (.v 0),none⟩,⟨some 11,.len (.v 10),none⟩,⟨some 12,.ari .sub .i64 (.v 11) (.k (.int .i64 1)),none⟩,⟨some 13,.ia 1 (.v 9) (.v 12),none⟩,⟨some 14,.ld false 1 (.v 13),none⟩,⟨some 15,.call 70 [.v 14],none⟩,⟨some 3,.cp (.v 15),none⟩] [0,3]) (.seq (.seq (.reg [ ⟨some 16,.cp (.v 0),none⟩,⟨some 17,.len (.v 16),none⟩,⟨some 18,.ari .sub .i64 (.v 17) (.k (.int .i64 2)),none⟩,⟨some 4,.cp (.v 18),none⟩] [0,3,4]) (.blk 0 (.loop (.seq (.seq (.reg [ ⟨some 19,.cp (.v 4),none⟩,⟨some 20,.ci .geq (.v 19) (.k (.int .i64 0)),none⟩] [0,3,4,20]) (.cnd (.v 20) (.skip) (.exit 0))) (.seq (.blk 1 (.seq (.reg [ ⟨some 23,.cp (.v 0),none⟩,⟨some 24,.cp (.v 4),none⟩,⟨some 25,.ia 1 (.v 23) (.v 24),none⟩,⟨some 26,.ld false 1 (.v 25),none⟩,⟨some 27,.ari .add .i64 (.k (.int .i64 10000)) (.v 26),none⟩,⟨some 28,.call 70 [.v 27],none⟩,⟨some 5,.cp (.v 28),none⟩] [0,3,4,5]) (.reg [ ⟨some 29,.cp (.v 3),none⟩,⟨some 30,.cp (.v 5),none⟩,⟨some 31,.slS (.v 30) (some (.k (.int .i64 1))) none,none⟩,⟨some 32,.cat (.v 29) (.v 31),none⟩,⟨some 3,.cp (.v 32),none⟩] [0,3,4]))) (.reg [ ⟨some 21,.cp (.v 4),none⟩,⟨some 22,.ari .sub .i64 (.v 21) (.k (.int .i64 1)),none⟩,⟨some 4,.cp (.v 22),none⟩] [0,3,4])))))) (.seq (.reg [ ⟨some 33,.cp (.v 3),none⟩,⟨some 2,.cp (.v 33),none⟩] [2]) (.ret)))))
def rs113 : List RV := [.t 2]
theorem chk113 : chkFn Tryz.prog Tryz.f113 1 pc113 rs113 = true := by kernel_rfl
theorem rule113 {L : World → Prop} (hL : ∀ w w', L w → Below w.heap.size w w' → L w') {ds : List D} {r : D} (hr0 : aliasOf r = none) (hlen : ds.length = 1) (hp : ds.all (fun d => (aliasOf d).isNone) = true)
    (h : wC (Con Tryz.prog L) pc113 (retQ rs113 r) (initE 0 ds)) : Con Tryz.prog L 113 ds r :=
  con_chk hL Tryz.func113 chk113 hr0 hlen hp (wC_sound h)

/-- klippe/klipperef01.carry -/
def pc114 : PC := .seq (.reg [ ⟨some 2,.nil 3,none⟩] [0]) (.seq (.reg [ ⟨some 3,.nil 3,none⟩] [0,3]) (.seq (.reg [ ⟨some 4,.cp (.k (.int .i64 0)),none⟩] [0,3,4]) (.seq (.seq (.reg [ ⟨some 5,.cp (.k (.int .i64 0)),none⟩] [0,3,4,5]) (.blk 0 (.loop (.seq (.seq (.reg [ ⟨some 7,.cp (.v 5),none⟩,⟨some 8,.cp (.v 0),none⟩,⟨some 9,.len (.v 8),none⟩,⟨some 10,.ci .lss (.v 7) (.v 9),none⟩,⟨some 11,.cp (.v 10),none⟩,⟨some 12,.cp (.v 4),(some (11,false))⟩,⟨some 13,.ci .neq (.v 12) (.k (.int .i64 0)),(some (11,false))⟩,⟨some 14,.pick (.v 11) (.k (.bool true)) (.v 13),none⟩] [0,3,4,5,14]) (.cnd (.v 14) (.skip) (.exit 0))) (.seq (.blk 1 (.seq (.seq (.reg [ ⟨some 17,.cp (.v 5),none⟩,⟨some 18,.cp (.v 0),none⟩,⟨some 19,.len (.v 18),none⟩,⟨some 20,.ci .lss (.v 17) (.v 19),none⟩] [0,3,4,5,20]) (.cnd (.v 20) (.reg [ ⟨some 21,.cp (.v 4),none⟩,⟨some 22,.cp (.v 0),none⟩,⟨some 23,.cp (.v 5),none⟩,⟨some 24,.ia 1 (.v 22) (.v 23),none⟩,⟨some 25,.ld false 1 (.v 24),none⟩,⟨some 26,.ari .add .i64 (.v 21) (.v 25),none⟩,⟨some 4,.cp (.v 26),none⟩] [0,3,4,5]) (.skip))) (.seq (.reg [ ⟨some 27,.cp (.v 4),none⟩,⟨some 28,.ari .rem .i64 (.v 27) (.k (.int .i64 10000)),none⟩,⟨some 6,.cp (.v 28),none⟩] [0,3,4,5,6]) (.seq (.seq (.reg [ ⟨some 29,.cp (.v 6),none⟩,⟨some 30,.ci .lss (.v 29) (.k (.int .i64 0)),none⟩] [0,3,4,5,6,30]) (.cnd (.v 30) (.reg [ ⟨some 31,.cp (.v 6),none⟩,⟨some 32,.ari .add .i64 (.v 31) (.k (.int .i64 10000)),none⟩,⟨some 6,.cp (.v 32),none⟩] [0,3,4,5,6]) (.skip))) (.seq (.reg [ ⟨some 33,.tk 3,none⟩,⟨some 34,.cp (.v 6),none⟩,⟨some 35,.bldS 3 [.int .i64 0] 1 [(0,1,.v 34)],none⟩,⟨some 36,.app 3 1 8 (.v 33) (.v 35),none⟩,⟨some 3,.tk 36,none⟩] [0,3,4,5,6]) (.reg [ ⟨some 37,.cp (.v 4),none⟩,⟨some 38,.cp (.v 6),none⟩,⟨some 39,.ari .sub .i64 (.v 37) (.v 38),none⟩,⟨some 40,.ari .quo .i64 (.v 39) (.k (.int .i64 10000)),none⟩,⟨some 4,.cp (.v 40),none⟩] [0,3,4,5])))))) (.reg [ ⟨some 15,.cp (.v 5),none⟩,⟨some 16,.ari .add .i64 (.v 15) (.k (.int .i64 1)),none⟩,⟨some 5,.cp (.v 16),none⟩] [0,3,4,5])))))) (.seq (.reg [ ⟨some 41,.tk 3,none⟩,⟨some 42,.call 112 [.v 41],none⟩,⟨some 2,.tk 42,none⟩] [2]) (.ret)))))
def rs114 : List RV := [.t 2]
theorem chk114 : chkFn Tryz.prog Tryz.f114 1 pc114 rs114 = true := by kernel_rfl
theorem rule114 {L : World → Prop} (hL : ∀ w w', L w → Below w.heap.size w w' → L w') {ds : List D} {r : D} (hr0 : aliasOf r = none) (hlen : ds.length = 1) (hp : ds.all (fun d => (aliasOf d).isNone) = true)
    (h : wC (Con Tryz.prog L) pc114 (retQ rs114 r) (initE 0 ds)) : Con Tryz.prog L 114 ds r :=
  con_chk hL Tryz.func114 chk114 hr0 hlen hp (wC_sound h)

/-- klippe/rational.lowest -/
def pc119 : PC := .seq (.reg [ ⟨some 4,.cp (.k (.str [])),none⟩] [0,1]) (.seq (.seq (.reg [ ⟨some 6,.cp (.v 1),none⟩,⟨some 7,.call 102 [.v 6],none⟩,⟨some 8,.ci .lss (.v 7) (.k (.int .i64 0)),none⟩] [0,1,8]) (.cnd (.v 8) (.reg [ ⟨some 9,.cp (.v 0),none⟩,⟨some 10,.call 143 [.v 9],none⟩,⟨some 11,.cp (.v 1),none⟩,⟨some 12,.call 143 [.v 11],none⟩,⟨some 0,.cp (.v 10),none⟩,⟨some 1,.cp (.v 12),none⟩] [0,1]) (.skip))) (.seq (.seq (.reg [ ⟨some 13,.cp (.v 0),none⟩,⟨some 14,.cp (.v 1),none⟩,⟨some 15,.call 90 [.v 13,.v 14],none⟩,⟨some 5,.cp (.v 15),none⟩] [0,1,5]) (.seq (.reg [ ⟨some 16,.cp (.v 5),none⟩,⟨some 17,.sc .neq (.v 16) (.k (.str [49])),none⟩] [0,1,5,17]) (.cnd (.v 17) (.seq (.reg [ ⟨some 19,.cp (.v 0),none⟩,⟨some 20,.cp (.v 5),none⟩,⟨some 21,.call 105 [.v 19,.v 20],none⟩,⟨some 18,.cp (.v 21),none⟩,⟨some 22,.ext 18 0,none⟩,⟨some 23,.ext 18 1,none⟩,⟨some 24,.ext 18 2,none⟩,⟨some 0,.cp (.v 22),none⟩] [0,1,5]) (.reg [ ⟨some 26,.cp (.v 1),none⟩,⟨some 27,.cp (.v 5),none⟩,⟨some 28,.call 105 [.v 26,.v 27],none⟩,⟨some 25,.cp (.v 28),none⟩,⟨some 29,.ext 25 0,none⟩,⟨some 30,.ext 25 1,none⟩,⟨some 31,.ext 25 2,none⟩,⟨some 1,.cp (.v 29),none⟩] [0,1])) (.skip)))) (.seq (.reg [ ⟨some 32,.cp (.v 0),none⟩,⟨some 33,.cp (.v 1),none⟩,⟨some 34,.call 144 [.v 32,.v 33],none⟩,⟨some 4,.cp (.v 34),none⟩] [4]) (.ret))))
def rs119 : List RV := [.t 4]
theorem chk119 : chkFn Tryz.prog Tryz.f119 2 pc119 rs119 = true := by kernel_rfl
theorem rule119 {L : World → Prop} (hL : ∀ w w', L w → Below w.heap.size w w' → L w') {ds : List D} {r : D} (hr0 : aliasOf r = none) (hlen : ds.length = 2) (hp : ds.all (fun d => (aliasOf d).isNone) = true)
    (h : wC (Con Tryz.prog L) pc119 (retQ rs119 r) (initE 0 ds)) : Con Tryz.prog L 119 ds r :=
  con_chk hL Tryz.func119 chk119 hr0 hlen hp (wC_sound h)

/-- internal/stringslite.Cut -/
def pc126 : PC := .seq (.reg [ ⟨some 4,.cp (.k (.str [])),none⟩,⟨some 5,.cp (.k (.str [])),none⟩,⟨some 6,.cp (.k (.bool false)),none⟩] [0,1]) (.seq (.seq (.reg [ ⟨some 8,.cp (.v 0),none⟩,⟨some 9,.cp (.v 1),none⟩,⟨some 10,.call 148 [.v 8,.v 9],none⟩,⟨some 7,.cp (.v 10),none⟩] [0,1,7]) (.seq (.reg [ ⟨some 11,.cp (.v 7),none⟩,⟨some 12,.ci .geq (.v 11) (.k (.int .i64 0)),none⟩] [0,1,7,12]) (.cnd (.v 12) (.seq (.reg [ ⟨some 13,.cp (.v 0),none⟩,⟨some 14,.cp (.v 7),none⟩,⟨some 15,.slS (.v 13) none (some (.v 14)),none⟩,⟨some 16,.cp (.v 0),none⟩,⟨some 17,.cp (.v 7),none⟩,⟨some 18,.cp (.v 1),none⟩,⟨some 19,.lenS (.v 18),none⟩,⟨some 20,.ari .add .i64 (.v 17) (.v 19),none⟩,⟨some 21,.slS (.v 16) (some (.v 20)) none,none⟩,⟨some 4,.cp (.v 15),none⟩,⟨some 5,.cp (.v 21),none⟩,⟨some 6,.cp (.k (.bool true)),none⟩] [4,5,6]) (.ret)) (.skip)))) (.seq (.reg [ ⟨some 22,.cp (.v 0),none⟩,⟨some 4,.cp (.v 22),none⟩,⟨some 5,.cp (.k (.str [])),none⟩,⟨some 6,.cp (.k (.bool false)),none⟩] [4,5,6]) (.ret)))
def rs126 : List RV := [.t 4, .t 5, .t 6]
theorem chk126 : chkFn Tryz.prog Tryz.f126 2 pc126 rs126 = true := by kernel_rfl
theorem rule126 {L : World → Prop} (hL : ∀ w w', L w → Below w.heap.size w w' → L w') {ds : List D} {r : D} (hr0 : aliasOf r = none) (hlen : ds.length = 2) (hp : ds.all (fun d => (aliasOf d).isNone) = true)
    (h : wC (Con Tryz.prog L) pc126 (retQ rs126 r) (initE 0 ds)) : Con Tryz.prog L 126 ds r :=
  con_chk hL Tryz.func126 chk126 hr0 hlen hp (wC_sound h)

/-- strings.CutPrefix -/
def pc127 : PC := .seq (.reg [ ⟨some 4,.cp (.k (.str [])),none⟩,⟨some 5,.cp (.k (.bool false)),none⟩] [0,1]) (.seq (.reg [ ⟨some 6,.cp (.v 0),none⟩,⟨some 7,.cp (.v 1),none⟩,⟨some 8,.call 149 [.v 6,.v 7],none⟩,⟨some 9,.ext 8 0,none⟩,⟨some 10,.ext 8 1,none⟩,⟨some 4,.cp (.v 9),none⟩,⟨some 5,.cp (.v 10),none⟩] [4,5]) (.ret))
def rs127 : List RV := [.t 4, .t 5]
theorem chk127 : chkFn Tryz.prog Tryz.f127 2 pc127 rs127 = true := by kernel_rfl
theorem rule127 {L : World → Prop} (hL : ∀ w w', L w → Below w.heap.size w w' → L w') {ds : List D} {r : D} (hr0 : aliasOf r = none) (hlen : ds.length = 2) (hp : ds.all (fun d => (aliasOf d).isNone) = true)
    (h : wC (Con Tryz.prog L) pc127 (retQ rs127 r) (initE 0 ds)) : Con Tryz.prog L 127 ds r :=
  con_chk hL Tryz.func127 chk127 hr0 hlen hp (wC_sound h)

/-- strings.TrimPrefix -/
def pc128 : PC := .seq (.reg [ ⟨some 4,.cp (.k (.str [])),none⟩] [0,1]) (.seq (.reg [ ⟨some 5,.cp (.v 0),none⟩,⟨some 6,.cp (.v 1),none⟩,⟨some 7,.call 150 [.v 5,.v 6],none⟩,⟨some 4,.cp (.v 7),none⟩] [4]) (.ret))
def rs128 : List RV := [.t 4]
theorem chk128 : chkFn Tryz.prog Tryz.f128 2 pc128 rs128 = true := by kernel_rfl
theorem rule128 {L : World → Prop} (hL : ∀ w w', L w → Below w.heap.size w w' → L w') {ds : List D} {r : D} (hr0 : aliasOf r = none) (hlen : ds.length = 2) (hp : ds.all (fun d => (aliasOf d).isNone) = true)
    (h : wC (Con Tryz.prog L) pc128 (retQ rs128 r) (initE 0 ds)) : Con Tryz.prog L 128 ds r :=
  con_chk hL Tryz.func128 chk128 hr0 hlen hp (wC_sound h)

/-- klippe/integer.divide -/
def pc130 : PC := .seq (.reg [ ⟨some 3,.bx 1 (.v 1),none⟩,⟨some 4,.alG 168,none⟩,⟨some 5,.nil 168,none⟩] [0,3,4,5,1000004]) (.seq (.seq (.reg [ ⟨some 14,.mv (.v 0),none⟩,⟨some 15,.ld false 1 (.v 3),none⟩,⟨some 16,.call 109 [.o 14 0,.v 15],none⟩,⟨some 17,.ci .lss (.v 16) (.k (.int .i64 0)),none⟩] [0,3,4,5,17,1000004]) (.cnd (.v 17) (.seq (.reg [ ⟨some 18,.tk 0,none⟩,⟨none,.sgP 4 (.k (.sl 0 [])) [],none⟩,⟨some 5,.tk 18,none⟩] [4,5,1000004]) (.ret)) (.skip))) (.seq (.seq (.reg [ ⟨some 19,.ld false 1 (.v 3),none⟩,⟨some 20,.len (.v 19),none⟩,⟨some 21,.ci .eql (.v 20) (.k (.int .i64 1)),none⟩] [0,3,4,5,21,1000004]) (.cnd (.v 21) (.seq (.reg [ ⟨some 22,.mv (.v 0),none⟩,⟨some 23,.len (.o 22 0),none⟩,⟨some 24,.mkS 168 [.int .u64 0] 8 (.v 23) (.v 23),none⟩,⟨none,.sgO 4 (.v 24) [],none⟩] [0,3,4,1000004]) (.seq (.reg [ ⟨some 6,.alloc [.int .u64 0],none⟩,⟨none,.st 1 (.v 6) (.k (.int .u64 0)),none⟩] [0,3,4,6,1000004]) (.seq (.seq (.reg [ ⟨some 25,.tk 0,none⟩,⟨some 26,.call 135 [.v 25],none⟩] [3,4,6,26,1000004]) (.blk 0 (.rfn 156 false 1 26 27 28 [7,8,27,28,29,30,31,32,33,34,35,36,37,38,39,40,41,42,43,44,45] (.seq (.reg [ ⟨some 7,.cp (.v 27),none⟩] [3,4,6,7,26,28,1000004]) (.reg [ ⟨some 8,.cp (.v 28),none⟩] [3,4,6,7,8,26,1000004])) (.blk 1 (.seq (.reg [ ⟨some 29,.ld false 1 (.v 6),none⟩,⟨some 30,.ari .mul .u64 (.v 29) (.k (.int .u64 1000000000)),none⟩,⟨some 31,.cp (.v 8),none⟩,⟨some 32,.ari .add .u64 (.v 30) (.v 31),none⟩,⟨none,.st 1 (.v 6) (.v 32),none⟩] [3,4,6,7,26,1000004]) (.reg [ ⟨some 33,.lg 4,none⟩,⟨some 34,.cp (.v 7),none⟩,⟨some 35,.ld false 1 (.v 6),none⟩,⟨some 36,.ld false 1 (.v 3),none⟩,⟨some 37,.ia 1 (.v 36) (.k (.int .i64 0)),none⟩,⟨some 38,.ld false 1 (.v 37),none⟩,⟨some 39,.ari .quo .u64 (.v 35) (.v 38),none⟩,⟨some 40,.ld false 1 (.v 6),none⟩,⟨some 41,.ld false 1 (.v 3),none⟩,⟨some 42,.ia 1 (.v 41) (.k (.int .i64 0)),none⟩,⟨some 43,.ld false 1 (.v 42),none⟩,⟨some 44,.ari .rem .u64 (.v 40) (.v 43),none⟩,⟨some 45,.ia 1 (.o 33 1000004) (.v 34),none⟩,⟨none,.st 1 (.o 45 1000004) (.v 39),none⟩,⟨none,.st 1 (.v 6) (.v 44),none⟩] [3,4,6,26,1000004]))) [3,4,6,26,1000004]))) (.seq (.reg [ ⟨some 46,.lg 4,none⟩,⟨some 47,.call 133 [.o 46 1000004],none⟩,⟨some 48,.ld false 1 (.v 6),none⟩,⟨some 49,.bldS 168 [.int .u64 0] 1 [(0,1,.v 48)],none⟩,⟨some 50,.call 133 [.v 49],none⟩,⟨none,.sgP 4 (.v 47) [46],none⟩,⟨some 5,.tk 50,none⟩] [4,5,1000004]) (.ret))))) (.skip))) (.seq (.reg [ ⟨some 51,.ld false 1 (.v 3),none⟩,⟨some 52,.ld false 1 (.v 3),none⟩,⟨some 53,.len (.v 52),none⟩,⟨some 54,.ari .sub .i64 (.v 53) (.k (.int .i64 1)),none⟩,⟨some 55,.ia 1 (.v 51) (.v 54),none⟩,⟨some 56,.ld false 1 (.v 55),none⟩,⟨some 57,.ari .add .u64 (.v 56) (.k (.int .u64 1)),none⟩,⟨some 58,.ari .quo .u64 (.k (.int .u64 1000000000)) (.v 57),none⟩,⟨some 9,.cp (.v 58),none⟩] [0,3,4,5,9,1000004]) (.seq (.reg [ ⟨some 59,.sh (.v 0),none⟩,⟨some 60,.cp (.v 9),none⟩,⟨some 61,.call 152 [.v 59,.v 60],none⟩,⟨some 62,.ld false 1 (.v 3),none⟩,⟨some 63,.cp (.v 9),none⟩,⟨some 64,.call 152 [.v 62,.v 63],none⟩,⟨some 0,.tk 61,none⟩,⟨none,.st 1 (.v 3) (.v 64),none⟩] [0,3,4,5,9,1000004]) (.seq (.reg [ ⟨some 65,.mv (.v 0),none⟩,⟨some 66,.len (.o 65 0),none⟩,⟨some 67,.mkS 168 [.int .u64 0] 8 (.v 66) (.v 66),none⟩,⟨none,.sgO 4 (.v 67) [],none⟩] [0,3,4,5,9,1000004]) (.seq (.reg [ ⟨some 68,.ld false 1 (.v 3),none⟩,⟨some 69,.ld false 1 (.v 3),none⟩,⟨some 70,.len (.v 69),none⟩,⟨some 71,.ari .sub .i64 (.v 70) (.k (.int .i64 1)),none⟩,⟨some 72,.ia 1 (.v 68) (.v 71),none⟩,⟨some 73,.ld false 1 (.v 72),none⟩,⟨some 10,.cp (.v 73),none⟩] [0,3,4,5,9,10,1000004]) (.seq (.seq (.reg [ ⟨some 74,.mv (.v 0),none⟩,⟨some 75,.len (.o 74 0),none⟩,⟨some 76,.ari .sub .i64 (.v 75) (.k (.int .i64 1)),none⟩,⟨some 11,.cp (.v 76),none⟩] [0,3,4,5,9,10,11,1000004]) (.blk 2 (.loop (.seq (.seq (.reg [ ⟨some 77,.cp (.v 11),none⟩,⟨some 78,.ci .geq (.v 77) (.k (.int .i64 0)),none⟩] [0,3,4,5,9,10,11,78,1000004]) (.cnd (.v 78) (.skip) (.exit 2))) (.seq (.blk 3 (.seq (.reg [ ⟨some 81,.mv (.v 0),none⟩,⟨some 82,.cp (.v 11),none⟩,⟨some 83,.ia 1 (.o 81 0) (.v 82),none⟩,⟨some 84,.ld false 1 (.o 83 0),none⟩,⟨some 85,.bldS 168 [.int .u64 0] 1 [(0,1,.v 84)],none⟩,⟨some 86,.sh (.v 5),none⟩,⟨some 87,.app 168 1 8 (.v 85) (.v 86),none⟩,⟨some 88,.call 133 [.v 87],none⟩,⟨some 5,.tk 88,none⟩] [0,3,4,5,9,10,11,1000004]) (.seq (.seq (.reg [ ⟨some 89,.mv (.v 5),none⟩,⟨some 90,.ld false 1 (.v 3),none⟩,⟨some 91,.call 109 [.o 89 5,.v 90],none⟩,⟨some 92,.ci .lss (.v 91) (.k (.int .i64 0)),none⟩] [0,3,4,5,9,10,11,92,1000004]) (.cnd (.v 92) (.exit 3) (.skip))) (.seq (.reg [ ⟨some 93,.mv (.v 5),none⟩,⟨some 94,.mv (.v 5),none⟩,⟨some 95,.len (.o 94 5),none⟩,⟨some 96,.ari .sub .i64 (.v 95) (.k (.int .i64 1)),none⟩,⟨some 97,.ia 1 (.o 93 5) (.v 96),none⟩,⟨some 98,.ld false 1 (.o 97 5),none⟩,⟨some 12,.cp (.v 98),none⟩] [0,3,4,5,9,10,11,12,1000004]) (.seq (.seq (.reg [ ⟨some 99,.mv (.v 5),none⟩,⟨some 100,.len (.o 99 5),none⟩,⟨some 101,.ld false 1 (.v 3),none⟩,⟨some 102,.len (.v 101),none⟩,⟨some 103,.ci .gtr (.v 100) (.v 102),none⟩] [0,3,4,5,9,10,11,12,103,1000004]) (.cnd (.v 103) (.reg [ ⟨some 104,.cp (.v 12),none⟩,⟨some 105,.ari .mul .u64 (.v 104) (.k (.int .u64 1000000000)),none⟩,⟨some 106,.mv (.v 5),none⟩,⟨some 107,.mv (.v 5),none⟩,⟨some 108,.len (.o 107 5),none⟩,⟨some 109,.ari .sub .i64 (.v 108) (.k (.int .i64 2)),none⟩,⟨some 110,.ia 1 (.o 106 5) (.v 109),none⟩,⟨some 111,.ld false 1 (.o 110 5),none⟩,⟨some 112,.ari .add .u64 (.v 105) (.v 111),none⟩,⟨some 12,.cp (.v 112),none⟩] [0,3,4,5,9,10,11,12,1000004]) (.skip))) (.seq (.reg [ ⟨some 113,.cp (.v 12),none⟩,⟨some 114,.cp (.v 10),none⟩,⟨some 115,.ari .quo .u64 (.v 113) (.v 114),none⟩,⟨some 116,.mm false [.v 115,.k (.int .u64 999999999)],none⟩,⟨some 12,.cp (.v 116),none⟩] [0,3,4,5,9,10,11,12,1000004]) (.seq (.reg [ ⟨some 117,.ld false 1 (.v 3),none⟩,⟨some 118,.cp (.v 12),none⟩,⟨some 119,.call 152 [.v 117,.v 118],none⟩,⟨some 13,.tk 119,none⟩] [0,3,4,5,9,10,11,12,13,1000004]) (.seq (.blk 4 (.loop (.seq (.seq (.reg [ ⟨some 120,.mv (.v 13),none⟩,⟨some 121,.mv (.v 5),none⟩,⟨some 122,.call 109 [.o 120 13,.o 121 5],none⟩,⟨some 123,.ci .gtr (.v 122) (.k (.int .i64 0)),none⟩] [0,3,4,5,9,10,11,12,13,123,1000004]) (.cnd (.v 123) (.skip) (.exit 4))) (.blk 5 (.seq (.reg [ ⟨some 124,.sh (.v 13),none⟩,⟨some 125,.ld false 1 (.v 3),none⟩,⟨some 126,.call 110 [.v 124,.v 125],none⟩,⟨some 13,.tk 126,none⟩] [0,3,4,5,9,10,11,12,13,1000004]) (.reg [ ⟨some 127,.cp (.v 12),none⟩,⟨some 128,.ari .sub .u64 (.v 127) (.k (.int .u64 1)),none⟩,⟨some 12,.cp (.v 128),none⟩] [0,3,4,5,9,10,11,12,13,1000004])))))) (.reg [ ⟨some 129,.lg 4,none⟩,⟨some 130,.cp (.v 11),none⟩,⟨some 131,.cp (.v 12),none⟩,⟨some 132,.sh (.v 5),none⟩,⟨some 133,.tk 13,none⟩,⟨some 134,.call 110 [.v 132,.v 133],none⟩,⟨some 135,.ia 1 (.o 129 1000004) (.v 130),none⟩,⟨none,.st 1 (.o 135 1000004) (.v 131),none⟩,⟨some 5,.tk 134,none⟩] [0,3,4,5,9,10,11,1000004]))))))))) (.reg [ ⟨some 79,.cp (.v 11),none⟩,⟨some 80,.ari .sub .i64 (.v 79) (.k (.int .i64 1)),none⟩,⟨some 11,.cp (.v 80),none⟩] [0,3,4,5,9,10,11,1000004])))))) (.seq (.reg [ ⟨some 137,.sh (.v 5),none⟩,⟨some 138,.cp (.v 9),none⟩,⟨some 139,.bldS 168 [.int .u64 0] 1 [(0,1,.v 138)],none⟩,⟨some 140,.call 130 [.v 137,.v 139],none⟩,⟨some 136,.cp (.v 140),none⟩,⟨some 141,.ext 136 0,none⟩,⟨some 142,.ext 136 1,none⟩,⟨some 5,.cp (.v 141),none⟩] [4,5,1000004]) (.seq (.reg [ ⟨some 143,.lg 4,none⟩,⟨some 144,.call 133 [.o 143 1000004],none⟩,⟨some 145,.sh (.v 5),none⟩,⟨none,.sgP 4 (.v 144) [143],none⟩,⟨some 5,.tk 145,none⟩] [4,5,1000004]) (.ret))))))))))
def rs130 : List RV := [.c 4 false 1, .t 5]
theorem chk130 : chkFnR Tryz.prog Tryz.f130 2 pc130 rs130 = true := by kernel_rfl
theorem nc130 : pc130.noCus = true := by kernel_rfl
theorem rule130 {L : World → Prop} (hL : ∀ w w', L w → Below w.heap.size w w' → L w') (hbk : ∀ q ∈ pc130.backs, IsBack Tryz.prog q.1 q.2.1 q.2.2) {ds : List D} {r : D} (hr0 : aliasOf r = none) (hlen : ds.length = 2) (hp : ds.all (fun d => (aliasOf d).isNone) = true)
    (h : wC (Con Tryz.prog L) pc130 (retQ rs130 r) (initE 0 ds)) : Con Tryz.prog L 130 ds r :=
  con_chkR hL Tryz.func130 chk130 hbk (fun c _ q hq => by rw [cusL_nil c _ nc130] at hq; cases hq) hr0 hlen hp (wC_sound h)

/-- klippe/integer.trim -/
def pc133 : PC := .seq (.reg [ ⟨some 2,.nil 168,none⟩] [0]) (.seq (.blk 0 (.loop (.seq (.seq (.reg [ ⟨some 3,.cp (.v 0),none⟩,⟨some 4,.len (.v 3),none⟩,⟨some 5,.ci .gtr (.v 4) (.k (.int .i64 0)),none⟩,⟨some 6,.cp (.v 5),none⟩,⟨some 7,.cp (.v 0),(some (6,true))⟩,⟨some 8,.cp (.v 0),(some (6,true))⟩,⟨some 9,.len (.v 8),(some (6,true))⟩,⟨some 10,.ari .sub .i64 (.v 9) (.k (.int .i64 1)),(some (6,true))⟩,⟨some 11,.ia 1 (.v 7) (.v 10),(some (6,true))⟩,⟨some 12,.ld false 1 (.v 11),(some (6,true))⟩,⟨some 13,.ci .eql (.v 12) (.k (.int .u64 0)),(some (6,true))⟩,⟨some 14,.pick (.v 6) (.v 13) (.k (.bool false)),none⟩] [0,14]) (.cnd (.v 14) (.skip) (.exit 0))) (.blk 1 (.reg [ ⟨some 15,.cp (.v 0),none⟩,⟨some 16,.cp (.v 0),none⟩,⟨some 17,.len (.v 16),none⟩,⟨some 18,.ari .sub .i64 (.v 17) (.k (.int .i64 1)),none⟩,⟨some 19,.slc 1 (.v 15) none (some (.v 18)),none⟩,⟨some 0,.cp (.v 19),none⟩] [0]))))) (.seq (.reg [ ⟨some 20,.cp (.v 0),none⟩,⟨some 2,.cp (.v 20),none⟩] [2]) (.ret)))
def rs133 : List RV := [.t 2]
theorem chk133 : chkFn Tryz.prog Tryz.f133 1 pc133 rs133 = true := by kernel_rfl
theorem rule133 {L : World → Prop} (hL : ∀ w w', L w → Below w.heap.size w w' → L w') {ds : List D} {r : D} (hr0 : aliasOf r = none) (hlen : ds.length = 1) (hp : ds.all (fun d => (aliasOf d).isNone) = true)
    (h : wC (Con Tryz.prog L) pc133 (retQ rs133 r) (initE 0 ds)) : Con Tryz.prog L 133 ds r :=
  con_chk hL Tryz.func133 chk133 hr0 hlen hp (wC_sound h)

/-- strconv.FormatUint -/
def pc136 : PC := .seq (.reg [ ⟨some 4,.cp (.k (.str [])),none⟩] [0,1]) (.seq (.reg [ ⟨some 5,.cp (.v 0),none⟩,⟨some 6,.cp (.v 1),none⟩,⟨some 7,.call 157 [.v 5,.v 6],none⟩,⟨some 4,.cp (.v 7),none⟩] [4]) (.ret))
def rs136 : List RV := [.t 4]
theorem chk136 : chkFn Tryz.prog Tryz.f136 2 pc136 rs136 = true := by kernel_rfl
theorem rule136 {L : World → Prop} (hL : ∀ w w', L w → Below w.heap.size w w' → L w') {ds : List D} {r : D} (hr0 : aliasOf r = none) (hlen : ds.length = 2) (hp : ds.all (fun d => (aliasOf d).isNone) = true)
    (h : wC (Con Tryz.prog L) pc136 (retQ rs136 r) (initE 0 ds)) : Con Tryz.prog L 136 ds r :=
  con_chk hL Tryz.func136 chk136 hr0 hlen hp (wC_sound h)

/-- slices.IndexFunc[klippe/surd.Surd,klippe/surd.Term] -/
def pc137 : PC := .seq (.reg [ ⟨some 4,.cp (.k (.int .i64 0)),none⟩] [0,1]) (.seq (.seq (.reg [ ⟨some 6,.cp (.v 0),none⟩,⟨some 7,.len (.v 6),none⟩,⟨some 8,.cp (.k (.int .i64 0)),none⟩] [0,1,7,8]) (.blk 0 (.loop (.seq (.reg [ ⟨some 9,.ci .lss (.v 8) (.v 7),none⟩] [0,1,7,8,9]) (.seq (.cnd (.v 9) (.skip) (.exit 0)) (.seq (.blk 1 (.seq (.reg [ ⟨some 10,.cp (.v 8),none⟩,⟨some 5,.cp (.v 10),none⟩] [0,1,5,7,8]) (.seq (.reg [ ⟨some 11,.cp (.v 1),none⟩,⟨some 12,.cp (.v 0),none⟩,⟨some 13,.cp (.v 5),none⟩,⟨some 14,.ia 2 (.v 12) (.v 13),none⟩,⟨some 15,.ld true 2 (.v 14),none⟩,⟨some 16,.callV 11 [.v 15],none⟩] [0,1,5,7,8,16]) (.cnd (.v 16) (.seq (.reg [ ⟨some 17,.cp (.v 5),none⟩,⟨some 4,.cp (.v 17),none⟩] [4]) (.ret)) (.skip))))) (.reg [ ⟨some 18,.ari .add .i64 (.v 8) (.k (.int .i64 1)),none⟩,⟨some 8,.cp (.v 18),none⟩] [0,1,7,8]))))))) (.seq (.reg [ ⟨some 4,.cp (.k (.int .i64 (-1))),none⟩] [4]) (.ret)))
def rs137 : List RV := [.t 4]
theorem chk137 : chkFn Tryz.prog Tryz.f137 2 pc137 rs137 = true := by kernel_rfl
theorem rule137 {L : World → Prop} (hL : ∀ w w', L w → Below w.heap.size w w' → L w') {ds : List D} {r : D} (hr0 : aliasOf r = none) (hlen : ds.length = 2) (hp : ds.all (fun d => (aliasOf d).isNone) = true)
    (h : wC (Con Tryz.prog L) pc137 (retQ rs137 r) (initE 0 ds)) : Con Tryz.prog L 137 ds r :=
  con_chk hL Tryz.func137 chk137 hr0 hlen hp (wC_sound h)

/-- klippe/klipperef01.Power -/
def pc138 : PC := .seq (.reg [ ⟨some 4,.cp (.k (.str [])),none⟩] [0,1]) (.seq (.reg [ ⟨some 5,.cp (.k (.str [49])),none⟩] [0,1,5]) (.seq (.seq (.reg [ ⟨some 6,.cp (.k (.int .i64 0)),none⟩] [0,1,5,6]) (.blk 0 (.loop (.seq (.seq (.reg [ ⟨some 7,.cp (.v 6),none⟩,⟨some 8,.cp (.v 1),none⟩,⟨some 9,.ci .lss (.v 7) (.v 8),none⟩] [0,1,5,6,9]) (.cnd (.v 9) (.skip) (.exit 0))) (.seq (.blk 1 (.reg [ ⟨some 12,.cp (.v 5),none⟩,⟨some 13,.cp (.v 0),none⟩,⟨some 14,.call 44 [.v 12,.v 13],none⟩,⟨some 5,.cp (.v 14),none⟩] [0,1,5,6])) (.reg [ ⟨some 10,.cp (.v 6),none⟩,⟨some 11,.ari .add .i64 (.v 10) (.k (.int .i64 1)),none⟩,⟨some 6,.cp (.v 11),none⟩] [0,1,5,6])))))) (.seq (.reg [ ⟨some 15,.cp (.v 5),none⟩,⟨some 4,.cp (.v 15),none⟩] [4]) (.ret))))
def rs138 : List RV := [.t 4]
theorem chk138 : chkFn Tryz.prog Tryz.f138 2 pc138 rs138 = true := by kernel_rfl
theorem rule138 {L : World → Prop} (hL : ∀ w w', L w → Below w.heap.size w w' → L w') {ds : List D} {r : D} (hr0 : aliasOf r = none) (hlen : ds.length = 2) (hp : ds.all (fun d => (aliasOf d).isNone) = true)
    (h : wC (Con Tryz.prog L) pc138 (retQ rs138 r) (initE 0 ds)) : Con Tryz.prog L 138 ds r :=
  con_chk hL Tryz.func138 chk138 hr0 hlen hp (wC_sound h)

/-- strings.HasPrefix -/
def pc139 : PC := .seq (.reg [ ⟨some 4,.cp (.k (.bool false)),none⟩] [0,1]) (.seq (.reg [ ⟨some 5,.cp (.v 0),none⟩,⟨some 6,.cp (.v 1),none⟩,⟨some 7,.call 158 [.v 5,.v 6],none⟩,⟨some 4,.cp (.v 7),none⟩] [4]) (.ret))
def rs139 : List RV := [.t 4]
theorem chk139 : chkFn Tryz.prog Tryz.f139 2 pc139 rs139 = true := by kernel_rfl
theorem rule139 {L : World → Prop} (hL : ∀ w w', L w → Below w.heap.size w w' → L w') {ds : List D} {r : D} (hr0 : aliasOf r = none) (hlen : ds.length = 2) (hp : ds.all (fun d => (aliasOf d).isNone) = true)
    (h : wC (Con Tryz.prog L) pc139 (retQ rs139 r) (initE 0 ds)) : Con Tryz.prog L 139 ds r :=
  con_chk hL Tryz.func139 chk139 hr0 hlen hp (wC_sound h)

/-- klippe/integer.Abs -/
def pc140 : PC := .seq (.reg [ ⟨some 2,.cp (.k (.str [])),none⟩] [0]) (.seq (.reg [ ⟨some 3,.cp (.v 0),none⟩,⟨some 4,.call 128 [.v 3,.k (.str [45])],none⟩,⟨some 2,.cp (.v 4),none⟩] [2]) (.ret))
def rs140 : List RV := [.t 2]
theorem chk140 : chkFn Tryz.prog Tryz.f140 1 pc140 rs140 = true := by kernel_rfl
theorem rule140 {L : World → Prop} (hL : ∀ w w', L w → Below w.heap.size w w' → L w') {ds : List D} {r : D} (hr0 : aliasOf r = none) (hlen : ds.length = 1) (hp : ds.all (fun d => (aliasOf d).isNone) = true)
    (h : wC (Con Tryz.prog L) pc140 (retQ rs140 r) (initE 0 ds)) : Con Tryz.prog L 140 ds r :=
  con_chk hL Tryz.func140 chk140 hr0 hlen hp (wC_sound h)

/-- klippe/integer.Neg -/
def pc143 : PC := .seq (.reg [ ⟨some 2,.cp (.k (.str [])),none⟩] [0]) (.seq (.seq (.reg [ ⟨some 3,.cp (.v 0),none⟩,⟨some 4,.call 102 [.v 3],none⟩] [0,4]) (.blk 0 (.seq (.reg [ ⟨some 6,.ci .eql (.v 4) (.k (.int .i64 1)),none⟩,⟨some 5,.cp (.v 6),none⟩] [0,4,5]) (.cnd (.v 5) (.seq (.reg [ ⟨some 7,.cp (.v 0),none⟩,⟨some 8,.cat (.k (.str [45])) (.v 7),none⟩,⟨some 2,.cp (.v 8),none⟩] [2]) (.ret)) (.seq (.reg [ ⟨some 10,.ci .eql (.v 4) (.k (.int .i64 (-1))),none⟩,⟨some 9,.cp (.v 10),none⟩] [0,9]) (.cnd (.v 9) (.seq (.reg [ ⟨some 11,.cp (.v 0),none⟩,⟨some 12,.slS (.v 11) (some (.k (.int .i64 1))) none,none⟩,⟨some 2,.cp (.v 12),none⟩] [2]) (.ret)) (.skip))))))) (.seq (.reg [ ⟨some 13,.cp (.v 0),none⟩,⟨some 2,.cp (.v 13),none⟩] [2]) (.ret)))
def rs143 : List RV := [.t 2]
theorem chk143 : chkFn Tryz.prog Tryz.f143 1 pc143 rs143 = true := by kernel_rfl
theorem rule143 {L : World → Prop} (hL : ∀ w w', L w → Below w.heap.size w w' → L w') {ds : List D} {r : D} (hr0 : aliasOf r = none) (hlen : ds.length = 1) (hp : ds.all (fun d => (aliasOf d).isNone) = true)
    (h : wC (Con Tryz.prog L) pc143 (retQ rs143 r) (initE 0 ds)) : Con Tryz.prog L 143 ds r :=
  con_chk hL Tryz.func143 chk143 hr0 hlen hp (wC_sound h)

/-- klippe/rational.join -/
def pc144 : PC := .seq (.reg [ ⟨some 4,.cp (.k (.str [])),none⟩] [0,1]) (.seq (.seq (.reg [ ⟨some 5,.cp (.v 1),none⟩,⟨some 6,.sc .eql (.v 5) (.k (.str [49])),none⟩] [0,1,6]) (.cnd (.v 6) (.seq (.reg [ ⟨some 7,.cp (.v 0),none⟩,⟨some 4,.cp (.v 7),none⟩] [4]) (.ret)) (.skip))) (.seq (.reg [ ⟨some 8,.cp (.v 0),none⟩,⟨some 9,.cat (.v 8) (.k (.str [47])),none⟩,⟨some 10,.cp (.v 1),none⟩,⟨some 11,.cat (.v 9) (.v 10),none⟩,⟨some 4,.cp (.v 11),none⟩] [4]) (.ret)))
def rs144 : List RV := [.t 4]
theorem chk144 : chkFn Tryz.prog Tryz.f144 2 pc144 rs144 = true := by kernel_rfl
theorem rule144 {L : World → Prop} (hL : ∀ w w', L w → Below w.heap.size w w' → L w') {ds : List D} {r : D} (hr0 : aliasOf r = none) (hlen : ds.length = 2) (hp : ds.all (fun d => (aliasOf d).isNone) = true)
    (h : wC (Con Tryz.prog L) pc144 (retQ rs144 r) (initE 0 ds)) : Con Tryz.prog L 144 ds r :=
  con_chk hL Tryz.func144 chk144 hr0 hlen hp (wC_sound h)

/-- internal/stringslite.CutPrefix -/
def pc149 : PC := .seq (.reg [ ⟨some 4,.cp (.k (.str [])),none⟩,⟨some 5,.cp (.k (.bool false)),none⟩] [0,1]) (.seq (.seq (.reg [ ⟨some 6,.cp (.v 0),none⟩,⟨some 7,.cp (.v 1),none⟩,⟨some 8,.call 158 [.v 6,.v 7],none⟩,⟨some 9,.not (.v 8),none⟩] [0,1,9]) (.cnd (.v 9) (.seq (.reg [ ⟨some 10,.cp (.v 0),none⟩,⟨some 4,.cp (.v 10),none⟩,⟨some 5,.cp (.k (.bool false)),none⟩] [4,5]) (.ret)) (.skip))) (.seq (.reg [ ⟨some 11,.cp (.v 0),none⟩,⟨some 12,.cp (.v 1),none⟩,⟨some 13,.lenS (.v 12),none⟩,⟨some 14,.slS (.v 11) (some (.v 13)) none,none⟩,⟨some 4,.cp (.v 14),none⟩,⟨some 5,.cp (.k (.bool true)),none⟩] [4,5]) (.ret)))
def rs149 : List RV := [.t 4, .t 5]
theorem chk149 : chkFn Tryz.prog Tryz.f149 2 pc149 rs149 = true := by kernel_rfl
theorem rule149 {L : World → Prop} (hL : ∀ w w', L w → Below w.heap.size w w' → L w') {ds : List D} {r : D} (hr0 : aliasOf r = none) (hlen : ds.length = 2) (hp : ds.all (fun d => (aliasOf d).isNone) = true)
    (h : wC (Con Tryz.prog L) pc149 (retQ rs149 r) (initE 0 ds)) : Con Tryz.prog L 149 ds r :=
  con_chk hL Tryz.func149 chk149 hr0 hlen hp (wC_sound h)

/-- internal/stringslite.TrimPrefix -/
def pc150 : PC := .seq (.reg [ ⟨some 4,.cp (.k (.str [])),none⟩] [0,1]) (.seq (.seq (.reg [ ⟨some 5,.cp (.v 0),none⟩,⟨some 6,.cp (.v 1),none⟩,⟨some 7,.call 158 [.v 5,.v 6],none⟩] [0,1,7]) (.cnd (.v 7) (.seq (.reg [ ⟨some 8,.cp (.v 0),none⟩,⟨some 9,.cp (.v 1),none⟩,⟨some 10,.lenS (.v 9),none⟩,⟨some 11,.slS (.v 8) (some (.v 10)) none,none⟩,⟨some 4,.cp (.v 11),none⟩] [4]) (.ret)) (.skip))) (.seq (.reg [ ⟨some 12,.cp (.v 0),none⟩,⟨some 4,.cp (.v 12),none⟩] [4]) (.ret)))
def rs150 : List RV := [.t 4]
theorem chk150 : chkFn Tryz.prog Tryz.f150 2 pc150 rs150 = true := by kernel_rfl
theorem rule150 {L : World → Prop} (hL : ∀ w w', L w → Below w.heap.size w w' → L w') {ds : List D} {r : D} (hr0 : aliasOf r = none) (hlen : ds.length = 2) (hp : ds.all (fun d => (aliasOf d).isNone) = true)
    (h : wC (Con Tryz.prog L) pc150 (retQ rs150 r) (initE 0 ds)) : Con Tryz.prog L 150 ds r :=
  con_chk hL Tryz.func150 chk150 hr0 hlen hp (wC_sound h)

/-- klippe/integer.small -/
def pc152 : PC := .seq (.reg [ ⟨some 4,.nil 168,none⟩] [0,1]) (.seq (.reg [ ⟨some 5,.cp (.v 0),none⟩,⟨some 6,.cp (.v 1),none⟩,⟨some 7,.bldS 168 [.int .u64 0] 1 [(0,1,.v 6)],none⟩,⟨some 8,.call 133 [.v 7],none⟩,⟨some 9,.call 93 [.v 5,.v 8],none⟩,⟨some 4,.tk 9,none⟩] [4]) (.ret))
def rs152 : List RV := [.t 4]
theorem chk152 : chkFn Tryz.prog Tryz.f152 2 pc152 rs152 = true := by kernel_rfl
theorem rule152 {L : World → Prop} (hL : ∀ w w', L w → Below w.heap.size w w' → L w') {ds : List D} {r : D} (hr0 : aliasOf r = none) (hlen : ds.length = 2) (hp : ds.all (fun d => (aliasOf d).isNone) = true)
    (h : wC (Con Tryz.prog L) pc152 (retQ rs152 r) (initE 0 ds)) : Con Tryz.prog L 152 ds r :=
  con_chk hL Tryz.func152 chk152 hr0 hlen hp (wC_sound h)

/-- internal/stringslite.HasPrefix -/
def pc158 : PC := .seq (.reg [ ⟨some 4,.cp (.k (.bool false)),none⟩] [0,1]) (.seq (.reg [ ⟨some 5,.cp (.v 0),none⟩,⟨some 6,.lenS (.v 5),none⟩,⟨some 7,.cp (.v 1),none⟩,⟨some 8,.lenS (.v 7),none⟩,⟨some 9,.ci .geq (.v 6) (.v 8),none⟩,⟨some 10,.cp (.v 9),none⟩,⟨some 11,.cp (.v 0),(some (10,true))⟩,⟨some 12,.cp (.v 1),(some (10,true))⟩,⟨some 13,.lenS (.v 12),(some (10,true))⟩,⟨some 14,.slS (.v 11) none (some (.v 13)),(some (10,true))⟩,⟨some 15,.cp (.v 1),(some (10,true))⟩,⟨some 16,.sc .eql (.v 14) (.v 15),(some (10,true))⟩,⟨some 17,.pick (.v 10) (.v 16) (.k (.bool false)),none⟩,⟨some 4,.cp (.v 17),none⟩] [4]) (.ret))
def rs158 : List RV := [.t 4]
theorem chk158 : chkFn Tryz.prog Tryz.f158 2 pc158 rs158 = true := by kernel_rfl
theorem rule158 {L : World → Prop} (hL : ∀ w w', L w → Below w.heap.size w w' → L w') {ds : List D} {r : D} (hr0 : aliasOf r = none) (hlen : ds.length = 2) (hp : ds.all (fun d => (aliasOf d).isNone) = true)
    (h : wC (Con Tryz.prog L) pc158 (retQ rs158 r) (initE 0 ds)) : Con Tryz.prog L 158 ds r :=
  con_chk hL Tryz.func158 chk158 hr0 hlen hp (wC_sound h)

def tabL : List (Nat × PC × List RV × Nat) := [(3, pc3, rs3, 1), (5, pc5, rs5, 2), (13, pc13, rs13, 0), (14, pc14, rs14, 1), (15, pc15, rs15, 1), (16, pc16, rs16, 1), (17, pc17, rs17, 2), (18, pc18, rs18, 1), (19, pc19, rs19, 1), (20, pc20, rs20, 1), (21, pc21, rs21, 1), (22, pc22, rs22, 2), (23, pc23, rs23, 2), (24, pc24, rs24, 2), (25, pc25, rs25, 2), (26, pc26, rs26, 1), (32, pc32, rs32, 1), (33, pc33, rs33, 1), (36, pc36, rs36, 3), (42, pc42, rs42, 2), (43, pc43, rs43, 2), (44, pc44, rs44, 2), (45, pc45, rs45, 1), (46, pc46, rs46, 1), (47, pc47, rs47, 1), (48, pc48, rs48, 2), (49, pc49, rs49, 1), (50, pc50, rs50, 2), (51, pc51, rs51, 1), (52, pc52, rs52, 1), (53, pc53, rs53, 1), (54, pc54, rs54, 1), (55, pc55, rs55, 2), (56, pc56, rs56, 1), (57, pc57, rs57, 1), (58, pc58, rs58, 1), (59, pc59, rs59, 4), (60, pc60, rs60, 2), (61, pc61, rs61, 1), (62, pc62, rs62, 2), (63, pc63, rs63, 3), (64, pc64, rs64, 1), (65, pc65, rs65, 1), (66, pc66, rs66, 1), (67, pc67, rs67, 2), (68, pc68, rs68, 4), (69, pc69, rs69, 2), (71, pc71, rs71, 1), (77, pc77, rs77, 1), (78, pc78, rs78, 2), (79, pc79, rs79, 2), (80, pc80, rs80, 2), (84, pc84, rs84, 2), (85, pc85, rs85, 1), (86, pc86, rs86, 2), (87, pc87, rs87, 2), (88, pc88, rs88, 1), (89, pc89, rs89, 2), (90, pc90, rs90, 2), (91, pc91, rs91, 2), (92, pc92, rs92, 1), (93, pc93, rs93, 2), (95, pc95, rs95, 1), (96, pc96, rs96, 2), (97, pc97, rs97, 2), (98, pc98, rs98, 1), (99, pc99, rs99, 1), (100, pc100, rs100, 1), (101, pc101, rs101, 1), (102, pc102, rs102, 1), (103, pc103, rs103, 2), (104, pc104, rs104, 2), (105, pc105, rs105, 2), (106, pc106, rs106, 2), (107, pc107, rs107, 2), (108, pc108, rs108, 2), (109, pc109, rs109, 2), (110, pc110, rs110, 2), (111, pc111, rs111, 2), (112, pc112, rs112, 1), (113, pc113, rs113, 1), (114, pc114, rs114, 1), (119, pc119, rs119, 2), (126, pc126, rs126, 2), (127, pc127, rs127, 2), (128, pc128, rs128, 2), (133, pc133, rs133, 1), (136, pc136, rs136, 2), (137, pc137, rs137, 2), (138, pc138, rs138, 2), (139, pc139, rs139, 2), (140, pc140, rs140, 1), (143, pc143, rs143, 1), (144, pc144, rs144, 2), (149, pc149, rs149, 2), (150, pc150, rs150, 2), (152, pc152, rs152, 2), (158, pc158, rs158, 2)]
def tabFn (f : Nat) : Option (PC × List RV × Nat) := (tabL.find? (fun e => e.1 == f)).map (·.2)
theorem tabL_ok : ∀ e ∈ tabL, ∃ fn, Tryz.prog.funcs[e.1]? = some fn ∧ chkFn Tryz.prog fn e.2.2.2 e.2.1 e.2.2.1 = true := by
  intro e he
  simp only [tabL, List.mem_cons, List.not_mem_nil, or_false] at he
  rcases he with rfl | rfl | rfl | rfl | rfl | rfl | rfl | rfl | rfl | rfl | rfl | rfl | rfl | rfl | rfl | rfl | rfl | rfl | rfl | rfl | rfl | rfl | rfl | rfl | rfl | rfl | rfl | rfl | rfl | rfl | rfl | rfl | rfl | rfl | rfl | rfl | rfl | rfl | rfl | rfl | rfl | rfl | rfl | rfl | rfl | rfl | rfl | rfl | rfl | rfl | rfl | rfl | rfl | rfl | rfl | rfl | rfl | rfl | rfl | rfl | rfl | rfl | rfl | rfl | rfl | rfl | rfl | rfl | rfl | rfl | rfl | rfl | rfl | rfl | rfl | rfl | rfl | rfl | rfl | rfl | rfl | rfl | rfl | rfl | rfl | rfl | rfl | rfl | rfl | rfl | rfl | rfl | rfl | rfl | rfl | rfl | rfl | rfl
  · exact ⟨_, Tryz.func3, chk3⟩
  · exact ⟨_, Tryz.func5, chk5⟩
  · exact ⟨_, Tryz.func13, chk13⟩
  · exact ⟨_, Tryz.func14, chk14⟩
  · exact ⟨_, Tryz.func15, chk15⟩
  · exact ⟨_, Tryz.func16, chk16⟩
  · exact ⟨_, Tryz.func17, chk17⟩
  · exact ⟨_, Tryz.func18, chk18⟩
  · exact ⟨_, Tryz.func19, chk19⟩
  · exact ⟨_, Tryz.func20, chk20⟩
  · exact ⟨_, Tryz.func21, chk21⟩
  · exact ⟨_, Tryz.func22, chk22⟩
  · exact ⟨_, Tryz.func23, chk23⟩
  · exact ⟨_, Tryz.func24, chk24⟩
  · exact ⟨_, Tryz.func25, chk25⟩
  · exact ⟨_, Tryz.func26, chk26⟩
  · exact ⟨_, Tryz.func32, chk32⟩
  · exact ⟨_, Tryz.func33, chk33⟩
  · exact ⟨_, Tryz.func36, chk36⟩
  · exact ⟨_, Tryz.func42, chk42⟩
  · exact ⟨_, Tryz.func43, chk43⟩
  · exact ⟨_, Tryz.func44, chk44⟩
  · exact ⟨_, Tryz.func45, chk45⟩
  · exact ⟨_, Tryz.func46, chk46⟩
  · exact ⟨_, Tryz.func47, chk47⟩
  · exact ⟨_, Tryz.func48, chk48⟩
  · exact ⟨_, Tryz.func49, chk49⟩
  · exact ⟨_, Tryz.func50, chk50⟩
  · exact ⟨_, Tryz.func51, chk51⟩
  · exact ⟨_, Tryz.func52, chk52⟩
  · exact ⟨_, Tryz.func53, chk53⟩
  · exact ⟨_, Tryz.func54, chk54⟩
  · exact ⟨_, Tryz.func55, chk55⟩
  · exact ⟨_, Tryz.func56, chk56⟩
  · exact ⟨_, Tryz.func57, chk57⟩
  · exact ⟨_, Tryz.func58, chk58⟩
  · exact ⟨_, Tryz.func59, chk59⟩
  · exact ⟨_, Tryz.func60, chk60⟩
  · exact ⟨_, Tryz.func61, chk61⟩
  · exact ⟨_, Tryz.func62, chk62⟩
  · exact ⟨_, Tryz.func63, chk63⟩
  · exact ⟨_, Tryz.func64, chk64⟩
  · exact ⟨_, Tryz.func65, chk65⟩
  · exact ⟨_, Tryz.func66, chk66⟩
  · exact ⟨_, Tryz.func67, chk67⟩
  · exact ⟨_, Tryz.func68, chk68⟩
  · exact ⟨_, Tryz.func69, chk69⟩
  · exact ⟨_, Tryz.func71, chk71⟩
  · exact ⟨_, Tryz.func77, chk77⟩
  · exact ⟨_, Tryz.func78, chk78⟩
  · exact ⟨_, Tryz.func79, chk79⟩
  · exact ⟨_, Tryz.func80, chk80⟩
  · exact ⟨_, Tryz.func84, chk84⟩
  · exact ⟨_, Tryz.func85, chk85⟩
  · exact ⟨_, Tryz.func86, chk86⟩
  · exact ⟨_, Tryz.func87, chk87⟩
  · exact ⟨_, Tryz.func88, chk88⟩
  · exact ⟨_, Tryz.func89, chk89⟩
  · exact ⟨_, Tryz.func90, chk90⟩
  · exact ⟨_, Tryz.func91, chk91⟩
  · exact ⟨_, Tryz.func92, chk92⟩
  · exact ⟨_, Tryz.func93, chk93⟩
  · exact ⟨_, Tryz.func95, chk95⟩
  · exact ⟨_, Tryz.func96, chk96⟩
  · exact ⟨_, Tryz.func97, chk97⟩
  · exact ⟨_, Tryz.func98, chk98⟩
  · exact ⟨_, Tryz.func99, chk99⟩
  · exact ⟨_, Tryz.func100, chk100⟩
  · exact ⟨_, Tryz.func101, chk101⟩
  · exact ⟨_, Tryz.func102, chk102⟩
  · exact ⟨_, Tryz.func103, chk103⟩
  · exact ⟨_, Tryz.func104, chk104⟩
  · exact ⟨_, Tryz.func105, chk105⟩
  · exact ⟨_, Tryz.func106, chk106⟩
  · exact ⟨_, Tryz.func107, chk107⟩
  · exact ⟨_, Tryz.func108, chk108⟩
  · exact ⟨_, Tryz.func109, chk109⟩
  · exact ⟨_, Tryz.func110, chk110⟩
  · exact ⟨_, Tryz.func111, chk111⟩
  · exact ⟨_, Tryz.func112, chk112⟩
  · exact ⟨_, Tryz.func113, chk113⟩
  · exact ⟨_, Tryz.func114, chk114⟩
  · exact ⟨_, Tryz.func119, chk119⟩
  · exact ⟨_, Tryz.func126, chk126⟩
  · exact ⟨_, Tryz.func127, chk127⟩
  · exact ⟨_, Tryz.func128, chk128⟩
  · exact ⟨_, Tryz.func133, chk133⟩
  · exact ⟨_, Tryz.func136, chk136⟩
  · exact ⟨_, Tryz.func137, chk137⟩
  · exact ⟨_, Tryz.func138, chk138⟩
  · exact ⟨_, Tryz.func139, chk139⟩
  · exact ⟨_, Tryz.func140, chk140⟩
  · exact ⟨_, Tryz.func143, chk143⟩
  · exact ⟨_, Tryz.func144, chk144⟩
  · exact ⟨_, Tryz.func149, chk149⟩
  · exact ⟨_, Tryz.func150, chk150⟩
  · exact ⟨_, Tryz.func152, chk152⟩
  · exact ⟨_, Tryz.func158, chk158⟩
theorem tabFn_ok (f : Nat) (pc : PC) (rs : List RV) (np : Nat) (h : tabFn f = some (pc, rs, np)) : ∃ fn, Tryz.prog.funcs[f]? = some fn ∧ chkFn Tryz.prog fn np pc rs = true := by
  unfold tabFn at h
  rw [Option.map_eq_some_iff] at h
  obtain ⟨e, h1, h2⟩ := h
  have h3 := List.find?_some h1
  simp only [beq_iff_eq] at h3
  obtain ⟨fn, h4, h5⟩ := tabL_ok e (List.mem_of_find?_eq_some h1)
  rw [h2] at h5
  exact ⟨fn, by rw [← h3]; exact h4, h5⟩

end Go.Proofs
