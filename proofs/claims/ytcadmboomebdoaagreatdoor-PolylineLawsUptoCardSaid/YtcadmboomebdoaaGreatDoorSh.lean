/-
 SURD: sum by hand. Own work.
-/
import Derived.Test.YtcadmboomebdoaaGreatDoorSg
import Derived.Test.YtcadmboomebdoaaGreatDoorPj
import Derived.Test.YtcadmboomebdoaaGreatDoorSf
import Derived.Test.YtcadmboomebdoaaGreatDoorEg
set_option linter.unusedVariables false
set_option linter.unusedSimpArgs false
namespace Go.Proofs
open Go Go.Pi Go.RowKit Go.Shelf Go.Ar

/-- all terms of a list of surds, each times its factor -/
def allT (k : Nat → Rat) : Nat → List (List Tm) → List Tm
 | _, [] => []
 | i, s :: ls => mulT (k i) s ++ allT k (i + 1) ls
theorem allT_app (k : Nat → Rat) : ∀ (l m : List (List Tm)) (i : Nat), allT k i (l ++ m) = allT k i l ++ allT k (i + l.length) m
 | [], m, i => rfl
 | s :: l, m, i => by
   show mulT (k i) s ++ allT k (i + 1) (l ++ m) = mulT (k i) s ++ allT k (i + 1) l ++ _
   rw [allT_app k l m (i + 1), List.append_assoc, List.length_cons, show i + 1 + l.length = i + (l.length + 1) by omega]
theorem allT_take {k : Nat → Rat} {ls : List (List Tm)} {i : Nat} {s : List Tm} (h : ls[i]? = some s) : allT k 0 (ls.take (i + 1)) = allT k 0 (ls.take i) ++ mulT (k i) s := by
 have hi := (List.getElem?_eq_some_iff.1 h).1
 rw [List.take_add_one, h]
 show allT k 0 (ls.take i ++ [s]) = _
 rw [allT_app, List.length_take, Nat.min_eq_left (by omega), Nat.zero_add]
 show _ ++ (mulT (k i) s ++ []) = _
 rw [List.append_nil]
theorem allT_split {k : Nat → Rat} {ls : List (List Tm)} {i : Nat} {s : List Tm} (h : ls[i]? = some s) : ∃ r, allT k 0 ls = allT k 0 (ls.take i) ++ mulT (k i) s ++ r := by
 refine ⟨allT k (0 + (ls.take (i + 1)).length) (ls.drop (i + 1)), ?_⟩
 rw [← allT_take h, ← allT_app, List.take_append_drop]
theorem allT_taken {k : Nat → Rat} {ls : List (List Tm)} {i j : Nat} {s : List Tm} (h : ls[i]? = some s) (hj : j ≤ s.length) : (allT k 0 ls).take ((allT k 0 (ls.take i)).length + j) = allT k 0 (ls.take i) ++ mulT (k i) (s.take j) ∧ (allT k 0 (ls.take i)).length + j ≤ (allT k 0 ls).length := by
 obtain ⟨r, e⟩ := allT_split (k := k) h
 have hm : (mulT (k i) s).length = s.length := by simp [mulT]
 constructor
 ·rw [e, List.append_assoc, List.take_append, List.take_of_length_le (by omega), Nat.add_sub_cancel_left, List.take_append_of_le_length (by omega)]
  simp [mulT, List.map_take]
 ·rw [e]; simp only [List.length_append]; omega
/-- a surd among the arguments -/
theorem rep_sg {S : Nat → Nat → Prop} {W : World} {l : List Tm} {u : Value} (h : Rep S W (sg l) u) : ∃ a cap, u = .slice a l.length cap ∧ ∀ j x, l[j]? = some x → ∃ b o, a = some ⟨b, o, none⟩ ∧
  (S b (o + j * 2) ∧ W.cell? ⟨b, o + j * 2, none⟩ = some (.string ⟨(rt x.1).toArray⟩)) ∧ (S b (o + (j * 2 + 1)) ∧ W.cell? ⟨b, o + (j * 2 + 1), none⟩ = some (.string ⟨(tz (x.2 : Int)).toArray⟩)) := by
 generalize hd : sg l = d at h
 cases h with
 | sl0 a cap hc =>
   simp only [sg, D.sl.injEq] at hd
   have hl : l.length = 0 := hd.1
   obtain rfl : l = [] := List.length_eq_zero_iff.1 hl
   exact ⟨a, cap, rfl, fun j x hx => by simp at hx⟩
 | slN => simp only [sg, D.sl.injEq] at hd; have h2 : (tms l).length = l.length * 2 := rows_length tD_len l; rw [hd.2, hd.1] at h2; simp at h2
 | sl n ds b off cap vs hl h1 hn hc hr hh =>
   simp only [sg, D.sl.injEq] at hd
   obtain ⟨rfl, rfl⟩ := hd
   refine ⟨_, cap, rfl, fun j x hx => ⟨b, off, rfl, ?_, ?_⟩⟩
   ·obtain ⟨r, e0, e1⟩ := tms_drop hx
    have d0 : (tms l)[j * 2]? = some (.str (rt x.1)) := by
     have := congrArg (fun q : List D => q[0]?) e0
     simpa [List.getElem?_drop] using this
    have hlt := (List.getElem?_eq_some_iff.1 d0).1
    have hv : vs[j * 2]? = some (vs[j * 2]'(by omega)) := List.getElem?_eq_getElem (by omega)
    generalize vs[j * 2]'(by omega) = v at hv
    have hrep := hh _ _ _ d0 hv
    cases hrep
    exact hr _ _ hv
   ·obtain ⟨r, e0, e1⟩ := tms_drop hx
    have d0 : (tms l)[j * 2 + 1]? = some (.str (tz (x.2 : Int))) := by
     have := congrArg (fun q : List D => q[0]?) e1
     simpa [List.getElem?_drop] using this
    have hlt := (List.getElem?_eq_some_iff.1 d0).1
    have hv : vs[j * 2 + 1]? = some (vs[j * 2 + 1]'(by omega)) := List.getElem?_eq_getElem (by omega)
    generalize vs[j * 2 + 1]'(by omega) = v at hv
    have hrep := hh _ _ _ d0 hv
    cases hrep
    exact hr _ _ hv
 | _ => cases hd
theorem rep_sgs {S : Nat → Nat → Prop} {W : World} {ls : List (List Tm)} {u : Value} (h : Rep S W (.sl ls.length (ls.map sg)) u) : ∃ a cap, u = .slice a ls.length cap ∧ ∀ i s, ls[i]? = some s → ∃ b o v, a = some ⟨b, o, none⟩ ∧
  S b (o + i) ∧ W.cell? ⟨b, o + i, none⟩ = some v ∧ Rep S W (sg s) v := by
 generalize hd : D.sl ls.length (ls.map sg) = d at h
 cases h with
 | sl0 a cap hc =>
   simp only [D.sl.injEq] at hd
   have hl : ls.length = 0 := hd.1
   obtain rfl : ls = [] := List.length_eq_zero_iff.1 hl
   exact ⟨a, cap, rfl, fun j x hx => by simp at hx⟩
 | slN =>
   simp only [D.sl.injEq] at hd
   have := congrArg List.length hd.2
   rw [List.length_map, hd.1] at this; simp at this
 | sl n ds b off cap vs hl h1 hn hc hr hh =>
   simp only [D.sl.injEq] at hd
   obtain ⟨rfl, rfl⟩ := hd
   refine ⟨_, cap, rfl, fun i s hs => ?_⟩
   have hlt := (List.getElem?_eq_some_iff.1 hs).1
   rw [List.length_map] at hl
   have hv : vs[i]? = some (vs[i]'(by omega)) := List.getElem?_eq_getElem (by omega)
   generalize vs[i]'(by omega) = v at hv
   exact ⟨b, off, v, rfl, (hr _ _ hv).1, (hr _ _ hv).2, hh i (sg s) v (by rw [List.getElem?_map, hs]; rfl) hv⟩
 | _ => cases hd
theorem enters_body {P : Program} {f : FuncId} (h : hasBody P f = true) : ∀ args w, (callFunc f args).run P w = .ok (.enter f args) w := by
 unfold hasBody at h
 split at h
 ·rename_i fn hf
  simp only [Bool.and_eq_true, bne_iff_ne, ne_eq] at h
  obtain ⟨c, hc⟩ := Option.isSome_iff_exists.1 h.1
  exact enters_of hf (by simpa using h.2) hc
 ·cases h

set_option maxRecDepth 100000 in
set_option maxHeartbeats 8000000 in
theorem Tryz.ssum {f : Nat} (k : Nat → Rat) (ls : List (List Tm)) (R : List Tm) (hls : ls.length ≤ 100) (hs : ∀ s ∈ ls, s.length ≤ 100 ∧ ∀ x ∈ s, rd x.1 ≤ 500 ∧ 0 < x.2 ∧ dl (x.2 : Int) ≤ 200)
  (hf : hasBody Tryz.prog f = true) (hk : ∀ i, i < ls.length → rd (k i) ≤ 100 ∧ Con Tryz.prog Tryz.L f [.int .i64 i] (.str (rt (k i))))
  (hacc : ∀ n, n ≤ (allT k 0 ls).length → (((allT k 0 ls).take n).foldl addL []).length ≤ 99 ∧ ∀ y ∈ ((allT k 0 ls).take n).foldl addL [], rd y.1 ≤ 2000 ∧ 0 < y.2 ∧ dl (y.2 : Int) ≤ 200)
  (hfin : (((allT k 0 ls).foldl addL []).filter fun x => !decide (x.1 = 0)).length ≤ 12)
  (hR : ∀ r : List Tm, r.Perm (((allT k 0 ls).foldl addL []).filter fun x => !decide (x.1 = 0)) → (r.Pairwise fun x y => x.2 ≤ y.2) → r = R) :
  Con Tryz.prog Tryz.L 130 [.sl ls.length (ls.map sg), .clo f []] (sg R) := by
 refine ⟨⟨by kernel_rfl, rfl⟩, fun S W vs hS hL hreps => ?_⟩
 obtain ⟨u0, _, rfl, hu0, hreps⟩ := hreps.uncons
 obtain ⟨u1, _, rfl, hu1, hreps⟩ := hreps.uncons
 obtain rfl := List.length_eq_zero_iff.1 hreps.1.symm
 obtain rfl : u1 = .func (.func f) #[] #[] := by
  cases hu1 with
  | clo _ _ vs hl _ =>
    obtain rfl : vs = [] := List.length_eq_zero_iff.1 hl.symm
    rfl
 obtain ⟨ad0, cap0, rfl, hel⟩ := rep_sgs hu0
 clear hreps hu1 hu0
 have eg := enters_body hf
 have mixed : Tryz.prog.follows .mixedOrders = true := by kernel_rfl
 have t0 := Tryz.underlying67; have a0 := Tryz.isAgg67; have z0 := Tryz.sizeOf67; have v0 := Tryz.zeroValue67; have u0 := run_underlying Tryz.underlying67
 have t1 := Tryz.underlying108; have a1 := Tryz.isAgg108; have z1 := Tryz.sizeOf108; have v1 := Tryz.zeroValue108; have u1 := run_underlying Tryz.underlying108
 have t2 := Tryz.underlying109; have a2 := Tryz.isAgg109; have z2 := Tryz.sizeOf109; have v2 := Tryz.zeroValue109; have u2 := run_underlying Tryz.underlying109
 have t4 := Tryz.underlying3; have a4 := Tryz.isAgg3; have z4 := Tryz.sizeOf3; have v4 := Tryz.zeroValue3; have u4 := run_underlying Tryz.underlying3
 have t6 := Tryz.underlying33; have a6 := Tryz.isAgg33; have z6 := Tryz.sizeOf33; have v6 := Tryz.zeroValue33; have u6 := run_underlying Tryz.underlying33
 have t7 := Tryz.underlying93; have a7 := Tryz.isAgg93; have z7 := Tryz.sizeOf93; have v7 := Tryz.zeroValue93; have u7 := run_underlying Tryz.underlying93
 have HS : Hid (∀ s ∈ ls, s.length ≤ 100 ∧ ∀ x ∈ s, rd x.1 ≤ 500 ∧ 0 < x.2 ∧ dl (x.2 : Int) ≤ 200) := hs
 have HK : Hid (∀ i, i < ls.length → rd (k i) ≤ 100 ∧ Con Tryz.prog Tryz.L f [.int .i64 i] (.str (rt (k i)))) := hk
 have HA : Hid (∀ n, n ≤ (allT k 0 ls).length → (((allT k 0 ls).take n).foldl addL []).length ≤ 99 ∧ ∀ y ∈ ((allT k 0 ls).take n).foldl addL [], rd y.1 ≤ 2000 ∧ 0 < y.2 ∧ dl (y.2 : Int) ≤ 200) := hacc
 have HF : Hid ((((allT k 0 ls).foldl addL []).filter fun x => !decide (x.1 = 0)).length ≤ 12) := hfin
 have HR : Hid (∀ r : List Tm, r.Perm (((allT k 0 ls).foldl addL []).filter fun x => !decide (x.1 = 0)) → (r.Pairwise fun x y => x.2 ≤ y.2) → r = R) := hR
 have HE : Hid (∀ i s, ls[i]? = some s → ∃ b o v, ad0 = some ⟨b, o, none⟩ ∧ S b (o + i) ∧ W.cell? ⟨b, o + i, none⟩ = some v ∧ Rep S W (sg s) v) := hel
 have HB : Hid (∀ b j, S b j → b < W.heap.size) := hS
 clear hs hk hacc hfin hR hel hf hS
 show Calls Tryz.prog 130 #[_, _] W _
 go_enter Tryz.func130, Tryz.ntmps130
 go_wp2
 go_loopg [5, 12] ls.length (fun g1 so vi wr => ∃ (i : Nat) (l : List Tm), vi = .int .i64 i ∧ i ≤ ls.length ∧ ls.length ≤ g1 + i ∧ Hid (l = (allT k 0 (ls.take i)).foldl addL []) ∧ wr.ownsRow W.heap.size 108 2 so l.length (tcs l) ∧ Below W.heap.size W wr)
 case atStart => exact ⟨0, [], rfl, by omega, by omega, rfl, World.ownsRow_nil _ _ _ _, Below.refl _ _⟩
 case round =>
  obtain ⟨i, l, rfl, hi, hg1, HL, hwr, hbr⟩ := hrel
  by_cases hlt : i < ls.length
  ·have hltz : (i : Int) < (ls.length : Int) := by omega
   have hsi : ls[i]? = some (ls[i]'hlt) := List.getElem?_eq_getElem hlt
   generalize ls[i]'hlt = s at hsi
   obtain ⟨b, o, us, rfl, hSb, hcl, hrs⟩ := HE.out i s hsi
   have hcl2 : wr.cell? ⟨b, o + i, none⟩ = some us := (hbr.cell (HB.out _ _ hSb)).trans hcl
   obtain ⟨adS, capS, rfl, het⟩ := rep_sg hrs
   have HT : Hid (∀ j x, s[j]? = some x → ∃ b o, adS = some ⟨b, o, none⟩ ∧ (S b (o + j * 2) ∧ W.cell? ⟨b, o + j * 2, none⟩ = some (.string ⟨(rt x.1).toArray⟩)) ∧ (S b (o + (j * 2 + 1)) ∧ W.cell? ⟨b, o + (j * 2 + 1), none⟩ = some (.string ⟨(tz (x.2 : Int)).toArray⟩))) := het
   have HI : Hid (ls[i]? = some s) := hsi
   have hs100 := (HS.out s (List.mem_of_getElem? hsi)).1
   clear het hsi hcl hrs
   go_wp2
   go_loopg [5, 19] s.length (fun g2 so vj wr2 => ∃ (j : Nat) (m : List Tm), vj = .int .i64 j ∧ j ≤ s.length ∧ s.length ≤ g2 + j ∧ Hid (m = (allT k 0 (ls.take i) ++ mulT (k i) (s.take j)).foldl addL []) ∧ wr2.ownsRow W.heap.size 108 2 so m.length (tcs m) ∧ Below W.heap.size W wr2)
   case atStart => exact ⟨0, l, rfl, by omega, by omega, (show Hid _ from by show l = _; rw [HL.out, List.take_zero]; simp [mulT]), hwr, hbr⟩
   case round =>
    clear hwr hbr
    obtain ⟨j, m, rfl, hj, hg2, HM, hwm, hbm⟩ := hrel
    by_cases hjs : j < s.length
    ·have hjz : (j : Int) < (s.length : Int) := by omega
     have hx : s[j]? = some (s[j]'hjs) := List.getElem?_eq_getElem hjs
     generalize s[j]'hjs = x at hx
     obtain ⟨b2, o2, rfl, ⟨hS1, hc1⟩, ⟨hS2, hc2⟩⟩ := HT.out j x hx
     have cA : wr.cell? ⟨b2, o2 + j * 2, none⟩ = some (.string ⟨(rt x.1).toArray⟩) := (hbm.cell (HB.out _ _ hS1)).trans hc1
     have cB : wr.cell? ⟨b2, o2 + j * 2 + 1, none⟩ = some (.string ⟨(tz (x.2 : Int)).toArray⟩) := (hbm.cell (HB.out _ _ hS2)).trans hc2
     obtain ⟨x1, x2, x3⟩ := (HS.out s (List.mem_of_getElem? HI.out)).2 x (List.mem_of_getElem? hx)
     obtain ⟨k1, k2⟩ := HK.out i hlt
     have hmb : m.length ≤ 99 ∧ ∀ y ∈ m, rd y.1 ≤ 2000 ∧ 0 < y.2 ∧ dl (y.2 : Int) ≤ 200 := by
      obtain ⟨q1, q2⟩ := allT_taken (k := k) HI.out hj
      have := HA.out _ q2
      rw [q1, ← HM.out] at this
      exact this
     have HMB : Hid (m.length ≤ 99 ∧ ∀ y ∈ m, rd y.1 ≤ 2000 ∧ 0 < y.2 ∧ dl (y.2 : Int) ≤ 200) := hmb
     have HX : Hid (s[j]? = some x) := hx
     have hrd := rd_mul x.1 (k i)
     have hgm := hwm.lt
     have hszm := hbm.size
     clear hS1 hc1 hS2 hc2 hx hmb
     go_wp2
     have hU : (wr.alloc (.cells #[.string ⟨(rt x.1).toArray⟩, .string ⟨(tz (x.2 : Int)).toArray⟩] 108)).heap[wr.heap.size]? = some (.cells #[.string ⟨(rt x.1).toArray⟩, .string ⟨(tz (x.2 : Int)).toArray⟩] 108 (0, 0)) := World.alloc_heap_new _ _
     have hBa : Below W.heap.size W (wr.alloc (.cells #[.string ⟨(rt x.1).toArray⟩, .string ⟨(tz (x.2 : Int)).toArray⟩] 108)) := hbm.alloc hszm _
     have hwa := hwm.alloc (.cells #[.string ⟨(rt x.1).toArray⟩, .string ⟨(tz (x.2 : Int)).toArray⟩] 108)
     generalize (wr.alloc (.cells #[.string ⟨(rt x.1).toArray⟩, .string ⟨(tz (x.2 : Int)).toArray⟩] 108)) = V at *
     have hBV : Below W.heap.size W V.drew := hBa.drew
     have hUV : V.drew.heap[wr.heap.size]? = some (.cells #[.string ⟨(rt x.1).toArray⟩, .string ⟨(tz (x.2 : Int)).toArray⟩] 108 (0, 0)) := hU
     have hwV := hwa.drew
     obtain ⟨cu, cu'⟩ := cells2 hU
     obtain ⟨cv, cv'⟩ := cells2 hUV
     clear cA cB hwm hbm hBa hwa hU
     go_region_held3 (fun w' => w'.cell? ⟨wr.heap.size, 0, none⟩ = some (.string ⟨(rt x.1).toArray⟩) ∧ w'.cell? ⟨wr.heap.size, 1, none⟩ = some (.string ⟨(tz (x.2 : Int)).toArray⟩)) (go_keep)
      (first
       | (go_at_fn f; refine Calls.mono (k2.2 (fun _ _ => False) _ [.int .i64 i] (fun _ _ h => h.elim) (Tryz.hL W _ hL hBV) (Reps.cons (.int _ _) .nil)) ?_; rintro e W5 ⟨v5, rfl, hb5, hr5⟩; obtain rfl : v5 = .string ⟨(rt (k i)).toArray⟩ := (by cases hr5; rfl); clear hr5; have hU5 := below_heap hb5 hUV; have hB5 := hBV.grown (gb_below (r := none) hb5) hBV.size (fun k hk => by cases hk); have hw5 := hwV.kept (gb_below (r := none) hb5) (by generalize Value.ownBlock _ = q; cases q <;> simp); obtain ⟨c5, c5'⟩ := cells2 hU5; clear hb5)
       | (go_at_call 55; refine Calls.mono ((Tryz.rmul x.1 (k i) (by omega) (by omega)).2 (fun _ _ => False) _ [.string ⟨(rt x.1).toArray⟩, .string ⟨(rt (k i)).toArray⟩] (fun _ _ h => h.elim) (Tryz.hL W _ hL hB5) (Reps.cons (.str _ (by have := rt_len x.1; unfold maxLen; omega)) (Reps.cons (.str _ (by have := rt_len (k i); unfold maxLen; omega)) .nil))) ?_; rintro e W6 ⟨v6, rfl, hb6, hr6⟩; obtain rfl : v6 = .string ⟨(rt (x.1 * k i)).toArray⟩ := (by cases hr6; rfl); clear hr6; have hU6 := below_heap hb6 hU5; have hB6 := hB5.grown (gb_below (r := none) hb6) hB5.size (fun k hk => by cases hk); have hw6 := hw5.kept (gb_below (r := none) hb6) (by generalize Value.ownBlock _ = q; cases q <;> simp); obtain ⟨c6, c6'⟩ := cells2 hU6; clear hb6)
       | (go_at_call 172; refine Calls.mono (Tryz.sadd W _ _ m (x.1 * k i, x.2) hL hB6 hw6 (by have := HMB.out.1; omega) HMB.out.2 ⟨by show rd (x.1 * k i) ≤ 2000; omega, x2, x3⟩) ?_; rintro e W7 ⟨v7, rfl, hw7, hg7, hB7⟩; have c7 := hg7.cell c6 (fun h => by have := (hgm _ h.symm).2; exact Nat.lt_irrefl _ this); have c7' := hg7.cell c6' (fun h => by have := (hgm _ h.symm).2; exact Nat.lt_irrefl _ this); clear hg7))
     all_goals go_wp2_with fail
     all_goals go_roundg (s.length - (j + 1))
     case measure => omega
     case rel =>
      refine ⟨j + 1, addL m (x.1 * k i, x.2), by go_num, by omega, by omega, (show Hid _ from ?_), hw7, hB7⟩
      show addL m (x.1 * k i, x.2) = _
      rw [HM.out, take_snoc HX.out]
      simp [mulT, List.foldl_append]
    ·obtain rfl : j = s.length := by omega
     have hjz : ¬ (s.length : Int) < (s.length : Int) := by omega
     go_wp2
     go_roundg (ls.length - (i + 1))
     case measure => omega
     case rel => exact ⟨i + 1, m, by go_num, by omega, by omega, (show Hid _ from by show m = _; rw [HM.out, List.take_length, allT_take HI.out]), hwm, hbm⟩
  ·obtain rfl : i = ls.length := by omega
   have hltz : ¬ (ls.length : Int) < (ls.length : Int) := by omega
   have HL2 : Hid (l = (allT k 0 ls).foldl addL []) := by have := HL.out; rw [List.take_length] at this; exact this
   have hb := HA.out _ (Nat.le_refl _)
   rw [List.take_length, ← HL2.out] at hb
   have HBD : Hid (l.length ≤ 99 ∧ ∀ y ∈ l, rd y.1 ≤ 2000 ∧ 0 < y.2 ∧ dl (y.2 : Int) ≤ 200) := hb
   have hd := Tryz.sdeleteO W wr _ l hL hbr hwr (by omega) (fun y hy => ⟨(hb.2 y hy).1, (hb.2 y hy).2.2⟩)
   clear hb HL
   go_wp2_with (first
    | (go_at_call 173; refine Calls.mono hd ?_; rintro e W2 ⟨v2, rfl, hw2, hg2, hb2⟩; have hst := Tryz.ssort W W2 v2 _ hL hb2 hw2 (by rw [HL2.out]; exact HF.out) (fun y hy => have hm := (List.mem_filter.1 hy).1; ⟨(HBD.out.2 y hm).1, (HBD.out.2 y hm).2.2⟩); clear hw2 hb2 hg2)
    | (go_at_call 175; refine Calls.mono hst ?_; rintro e W3 ⟨rfl, r, hp, hsrt, hw3, hg3, hb3⟩))
   go_ret
   rw [HL2.out] at hp
   obtain rfl := HR.out r hp hsrt
   rw [HL2.out, ← hp.length_eq] at hw3
   refine ⟨v2, rfl, hb3, rep_ownS hw3 (fun y hy => ?_) fun g j h1 h2 => .inr ⟨h1, h2⟩⟩
   have hm := (List.mem_filter.1 (hp.mem_iff.1 hy)).1
   rw [← HL2.out] at hm
   exact ⟨(HBD.out.2 y hm).1, (HBD.out.2 y hm).2.2⟩
end Go.Proofs

/-
 SURD: what a joined list is, for the ten radicands of the law. Own work.
-/
namespace Go.Proofs
open Go Go.Pi Go.RowKit Go.Ar

/-- a radicand as the base times a square -/
def bs : Nat → Nat × Nat
 | 8 => (2, 2)
 | 50 => (2, 5)
 | 12 => (3, 2)
 | n => (n, 1)
abbrev R10 : List Nat := [1, 2, 3, 8, 6, 12, 10, 50, 30, 1009]
def sqB (n : Nat) : Bool := (List.range 1100).any fun k => k * k == n
theorem isq_sqB {n : Nat} (h : n < 1100 * 1100) : isq n ↔ sqB n = true := by
 unfold sqB
 rw [List.any_eq_true]
 constructor
 ·intro hq
  have hr : nrt n < 1100 := by
   rcases Nat.lt_or_ge (nrt n) 1100 with h1 | h1
   ·exact h1
   ·have := Nat.mul_le_mul h1 h1
    unfold isq at hq; omega
  exact ⟨nrt n, List.mem_range.2 hr, by simpa [isq] using hq⟩
 ·rintro ⟨k, _, hk⟩
  have : k * k = n := by simpa using hk
  rw [← this]; exact isq_sq k
theorem r10_form : ∀ r ∈ R10, r = (bs r).1 * (bs r).2 * (bs r).2 ∧ 0 < (bs r).1 ∧ 0 < (bs r).2 ∧ (bs r).2 ≤ 5 ∧ r ≤ 1009 ∧ ((bs r).1 = 1 → r = 1) := by decide
theorem r10_sq0 : (R10.all fun a => R10.all fun b => sqB (a * b) == decide ((bs a).1 = (bs b).1)) = true := by decide +kernel
theorem r10_sq {a b : Nat} (ha : a ∈ R10) (hb : b ∈ R10) : isq (a * b) ↔ (bs a).1 = (bs b).1 := by
 have h1 := (r10_form a ha).2.2.2.2.1
 have h2 := (r10_form b hb).2.2.2.2.1
 have h3 := Nat.mul_le_mul h1 h2
 rw [isq_sqB (by omega)]
 have h := List.all_eq_true.1 (List.all_eq_true.1 r10_sq0 a ha) b hb
 rw [beq_iff_eq.1 h]; simp
theorem r10_nrt {a b : Nat} (ha : a ∈ R10) (hb : b ∈ R10) (h : (bs a).1 = (bs b).1) : nrt (a * b) = (bs a).1 * (bs a).2 * (bs b).2 := by
 have e1 := (r10_form a ha).1
 have e2 := (r10_form b hb).1
 rw [← h] at e2
 have : a * b = ((bs a).1 * (bs a).2 * (bs b).2) * ((bs a).1 * (bs a).2 * (bs b).2) := by
  generalize (bs a).1 = p at *
  generalize (bs a).2 = q at *
  generalize (bs b).2 = r at *
  rw [e1, e2]; grind
 rw [this, nrt_sq]
theorem nat_ne {n : Nat} (h : 0 < n) : (n : Rat) ≠ 0 := fun e => by
 have : (n : Rat) = ((0 : Nat) : Rat) := by rw [e]; rfl
 have := Rat.natCast_inj.1 this; omega
theorem r10_root {a b : Nat} (ha : a ∈ R10) (hb : b ∈ R10) (h : (bs a).1 = (bs b).1) : mkRat (nrt (a * b)) b * ((bs b).2 : Rat) = ((bs a).2 : Rat) := by
 obtain ⟨e2, p1, p2, _⟩ := r10_form b hb
 rw [r10_nrt ha hb h, h, Rat.mkRat_eq_div]
 have hb' : (b : Rat) = ((bs b).1 : Rat) * ((bs b).2 : Rat) * ((bs b).2 : Rat) := by
  conv => lhs; rw [e2]
  rw [Rat.natCast_mul, Rat.natCast_mul]
 rw [hb']
 have n1 : ((bs b).1 : Rat) ≠ 0 := nat_ne p1
 have n2 : ((bs b).2 : Rat) ≠ 0 := nat_ne p2
 push_cast
 generalize ((bs b).1 : Rat) = p at *
 generalize ((bs b).2 : Rat) = q at *
 generalize ((bs a).2 : Rat) = r at *
 grind

/-- the sum of a list in one class, in units of the root of the base -/
def vlB (b : Nat) : List Tm → Rat
 | [] => 0
 | x :: l => (if (bs x.2).1 = b then x.1 * ((bs x.2).2 : Rat) else 0) + vlB b l
theorem vlB_app (b : Nat) : ∀ (l m : List Tm), vlB b (l ++ m) = vlB b l + vlB b m
 | [], m => by rw [List.nil_append]; show _ = 0 + _; rw [Rat.zero_add]
 | x :: l, m => by
   show _ + vlB b (l ++ m) = _ + vlB b l + vlB b m
   rw [vlB_app b l m, Rat.add_assoc]
def inR (l : List Tm) : Prop := ∀ x ∈ l, x.2 ∈ R10
theorem sumM_val {m : Nat} (hm : m ∈ R10) : ∀ (n : Nat) (l : List Tm), l.length = n → inR l → sumM l m * ((bs m).2 : Rat) = vlB (bs m).1 l
 | 0, l, hl, _ => by
   obtain rfl : l = [] := List.length_eq_zero_iff.1 hl
   show 0 * _ = 0
   rw [Rat.zero_mul]
 | n + 1, l, hl, h => by
   obtain ⟨l', x, rfl⟩ : ∃ l' x, l = l' ++ [x] := ⟨l.dropLast, l.getLast (by intro e; rw [e] at hl; simp at hl), (List.dropLast_concat_getLast _).symm⟩
   have hx := h x (List.mem_append_right _ (List.mem_singleton.2 rfl))
   have ih := sumM_val hm n l' (by simpa using hl) fun y hy => h y (List.mem_append_left _ hy)
   rw [sumM_snoc, vlB_app, ← ih]
   show _ = _ + ((if (bs x.2).1 = (bs m).1 then x.1 * ((bs x.2).2 : Rat) else 0) + 0)
   by_cases hq : (bs x.2).1 = (bs m).1
   ·rw [if_pos hq, if_pos ((r10_sq hx hm).2 hq), ← r10_root hx hm hq]
    grind
   ·rw [if_neg hq, if_neg (fun h => hq ((r10_sq hx hm).1 h)), Rat.add_zero, Rat.add_zero]
theorem leastM_mem {all : List Tm} {r : Nat} (h : inR all) (hr : r ∈ R10) : leastM all r ∈ R10 ∧ (bs (leastM all r)).1 = (bs r).1 := by
 unfold leastM
 generalize hf : (fun (m : Nat) (x : Tm) => if isq (x.2 * r) ∧ x.2 < m then x.2 else m) = f
 have key : ∀ (l : List Tm) (m : Nat), inR l → (m ∈ R10 ∧ (bs m).1 = (bs r).1) → ((l.foldl f m) ∈ R10 ∧ (bs (l.foldl f m)).1 = (bs r).1) := by
  intro l
  induction l with
  | nil => intro m _ hm; exact hm
  | cons x l ih =>
    intro m hl hm
    refine ih _ (fun y hy => hl y (List.mem_cons_of_mem _ hy)) ?_
    rw [← hf]
    show (if isq (x.2 * r) ∧ x.2 < m then x.2 else m) ∈ R10 ∧ (bs (if isq (x.2 * r) ∧ x.2 < m then x.2 else m)).1 = _
    have hx := hl x (List.mem_cons_self ..)
    split
    ·rename_i h; exact ⟨hx, (r10_sq hx hr).1 h.1⟩
    ·exact hm
 exact key all r h ⟨hr, rfl⟩
/-- a list in order, each class once, no factor zero -/
structure Can (l : List Tm) : Prop where
 ne : ∀ x ∈ l, x.1 ≠ 0
 rad : inR l
 lt : l.Pairwise fun x y => x.2 < y.2
 cls : l.Pairwise fun x y => (bs x.2).1 ≠ (bs y.2).1
theorem vlB_none {b : Nat} : ∀ {l : List Tm}, (∀ x ∈ l, (bs x.2).1 ≠ b) → vlB b l = 0
 | [], _ => rfl
 | x :: l, h => by
   show (if _ then _ else 0) + vlB b l = 0
   rw [if_neg (h x (List.mem_cons_self ..)), vlB_none fun y hy => h y (List.mem_cons_of_mem _ hy), Rat.add_zero]
theorem Can.val {l : List Tm} (h : Can l) {x : Tm} (hx : x ∈ l) : x.1 * ((bs x.2).2 : Rat) = vlB (bs x.2).1 l := by
 have hc := h.cls
 clear h
 induction l with
 | nil => cases hx
 | cons y l ih =>
   obtain ⟨h1, h2⟩ := List.pairwise_cons.1 hc
   show _ = (if _ then _ else 0) + vlB _ l
   rcases List.mem_cons.1 hx with rfl | hx
   ·rw [if_pos rfl, vlB_none (fun z hz => (h1 z hz).symm), Rat.add_zero]
   ·rw [if_neg (h1 x hx), Rat.zero_add, ih hx h2]
theorem vlB_insM (b : Nat) (x : Tm) : ∀ l : List Tm, vlB b (insM x l) = (if (bs x.2).1 = b then x.1 * ((bs x.2).2 : Rat) else 0) + vlB b l
 | [] => rfl
 | y :: l => by
   unfold insM
   split
   ·rfl
   ·show _ + vlB b (insM x l) = _ + (_ + vlB b l)
    rw [vlB_insM b x l]; grind
theorem Can.ins {l : List Tm} (h : Can l) {x : Tm} (h0 : x.1 ≠ 0) (hr : x.2 ∈ R10) (hn : ∀ y ∈ l, (bs y.2).1 ≠ (bs x.2).1) : Can (insM x l) := by
 refine ⟨?_, ?_, ?_, ?_⟩
 ·intro y hy
  rcases mem_insM.1 hy with rfl | hy
  ·exact h0
  ·exact h.ne y hy
 ·intro y hy
  rcases mem_insM.1 hy with rfl | hy
  ·exact hr
  ·exact h.rad y hy
 ·have hl := h.lt
  clear h
  induction l with
  | nil => simp [insM]
  | cons y l ih =>
    obtain ⟨h1, h2⟩ := List.pairwise_cons.1 hl
    have hyx : y.2 ≠ x.2 := fun e => hn y (List.mem_cons_self ..) (by rw [e])
    unfold insM
    split
    ·rename_i hlt
     refine List.pairwise_cons.2 ⟨fun z hz => ?_, hl⟩
     rcases List.mem_cons.1 hz with rfl | hz
     ·exact hlt
     ·have := h1 z hz; omega
    ·refine List.pairwise_cons.2 ⟨fun z hz => ?_, ih (fun z hz => hn z (List.mem_cons_of_mem _ hz)) h2⟩
     rcases mem_insM.1 hz with rfl | hz
     ·omega
     ·exact h1 z hz
 ·have hl := h.cls
  clear h
  induction l with
  | nil => simp [insM]
  | cons y l ih =>
    obtain ⟨h1, h2⟩ := List.pairwise_cons.1 hl
    have hyx := hn y (List.mem_cons_self ..)
    unfold insM
    split
    ·refine List.pairwise_cons.2 ⟨fun z hz => ?_, hl⟩
     rcases List.mem_cons.1 hz with rfl | hz
     ·exact hyx.symm
     ·exact (hn z (List.mem_cons_of_mem _ hz)).symm
    ·refine List.pairwise_cons.2 ⟨fun z hz => ?_, ih (fun z hz => hn z (List.mem_cons_of_mem _ hz)) h2⟩
     rcases mem_insM.1 hz with rfl | hz
     ·exact hyx
     ·exact h1 z hz
/-- what has been joined so far -/
theorem joinT_can {all : List Tm} (h : inR all) : ∀ i, i ≤ all.length → Can (joinT all i) ∧ (∀ y ∈ joinT all i, ∃ x ∈ all.take i, (bs x.2).1 = (bs y.2).1) ∧
  ∀ b, vlB b (joinT all i) = if (∃ x ∈ all.take i, (bs x.2).1 = b) then vlB b all else 0
 | 0, _ => ⟨⟨fun x hx => (by cases hx), fun x hx => (by cases hx), .nil, .nil⟩, fun y hy => (by cases hy), fun b => (by rw [if_neg (by simp)]; rfl)⟩
 | i + 1, hi => by
   obtain ⟨c, h1, h2⟩ := joinT_can h i (by omega)
   have hx : all[i]? = some (all[i]'(by omega)) := List.getElem?_eq_getElem (by omega)
   generalize all[i]'(by omega) = x at hx
   have hxr := h x (List.mem_of_getElem? hx)
   rw [joinT_some hx, take_snoc hx]
   obtain ⟨m1, m2⟩ := leastM_mem h hxr
   have hs := sumM_val m1 all.length all rfl h
   rw [m2] at hs
   have hfr : freshIn (all.take i) x.2 = true ↔ ∀ y ∈ all.take i, (bs y.2).1 ≠ (bs x.2).1 := by
    unfold freshIn
    rw [List.all_eq_true]
    refine forall_congr' fun y => forall_congr' fun hy => ?_
    have := r10_sq (h y (List.mem_of_mem_take hy)) hxr
    simp [this]
   unfold joinS
   by_cases hf : freshIn (all.take i) x.2 = false
   ·rw [if_pos hf]
    have hex : ∃ y ∈ all.take i, (bs y.2).1 = (bs x.2).1 := by
     refine Classical.byContradiction fun hn => ?_
     have : freshIn (all.take i) x.2 = true := hfr.2 fun y hy e => hn ⟨y, hy, e⟩
     rw [hf] at this; cases this
    refine ⟨c, fun y hy => ?_, fun b => ?_⟩
    ·obtain ⟨z, hz, e⟩ := h1 y hy
     exact ⟨z, List.mem_append_left _ hz, e⟩
    ·rw [h2 b]
     by_cases hb : (bs x.2).1 = b
     ·subst hb
      rw [if_pos hex, if_pos ⟨x, List.mem_append_right _ (List.mem_singleton.2 rfl), rfl⟩]
     ·congr 1
      refine propext ⟨fun ⟨z, hz, e⟩ => ⟨z, List.mem_append_left _ hz, e⟩, fun ⟨z, hz, e⟩ => ?_⟩
      rcases List.mem_append.1 hz with hz | hz
      ·exact ⟨z, hz, e⟩
      ·rw [List.mem_singleton.1 hz] at e; exact absurd e hb
   ·rw [if_neg hf]
    have hft : ∀ y ∈ all.take i, (bs y.2).1 ≠ (bs x.2).1 := hfr.1 (by cases hq : freshIn (all.take i) x.2 <;> simp_all)
    have hn : ∀ y ∈ joinT all i, (bs y.2).1 ≠ (bs (leastM all x.2)).1 := fun y hy e => by
     obtain ⟨z, hz, e2⟩ := h1 y hy
     exact hft z hz (by rw [e2, e, m2])
    have hval : ∀ b, (bs x.2).1 ≠ b → ((∃ z ∈ all.take i, (bs z.2).1 = b) = ∃ z ∈ all.take i ++ [x], (bs z.2).1 = b) := fun b hb =>
     propext ⟨fun ⟨z, hz, e⟩ => ⟨z, List.mem_append_left _ hz, e⟩, fun ⟨z, hz, e⟩ => by
      rcases List.mem_append.1 hz with hz | hz
      ·exact ⟨z, hz, e⟩
      ·rw [List.mem_singleton.1 hz] at e; exact absurd e hb⟩
    have hold : vlB (bs x.2).1 (joinT all i) = 0 := by rw [h2, if_neg (fun ⟨z, hz, e⟩ => hft z hz e)]
    by_cases h0 : sumM all (leastM all x.2) = 0
    ·rw [if_pos h0]
     rw [h0, Rat.zero_mul] at hs
     refine ⟨c, fun y hy => ?_, fun b => ?_⟩
     ·obtain ⟨z, hz, e⟩ := h1 y hy
      exact ⟨z, List.mem_append_left _ hz, e⟩
     ·by_cases hb : (bs x.2).1 = b
      ·subst hb
       rw [hold, if_pos ⟨x, List.mem_append_right _ (List.mem_singleton.2 rfl), rfl⟩, ← hs]
      ·rw [h2 b]; congr 1; exact hval b hb
    ·rw [if_neg h0]
     refine ⟨c.ins h0 m1 hn, fun y hy => ?_, fun b => ?_⟩
     ·rcases mem_insM.1 hy with rfl | hy
      ·exact ⟨x, List.mem_append_right _ (List.mem_singleton.2 rfl), m2.symm⟩
      ·obtain ⟨z, hz, e⟩ := h1 y hy
       exact ⟨z, List.mem_append_left _ hz, e⟩
     ·rw [vlB_insM]
      show (if (bs (leastM all x.2)).1 = b then sumM all (leastM all x.2) * ((bs (leastM all x.2)).2 : Rat) else 0) + _ = _
      rw [m2]
      by_cases hb : (bs x.2).1 = b
      ·subst hb
       rw [if_pos rfl, hs, hold, Rat.add_zero, if_pos ⟨x, List.mem_append_right _ (List.mem_singleton.2 rfl), rfl⟩]
      ·rw [if_neg hb, Rat.zero_add, h2 b]; congr 1; exact hval b hb
theorem joinL_can {all : List Tm} (h : inR all) : Can (joinL all) ∧ ∀ b, vlB b (joinL all) = vlB b all := by
 obtain ⟨c, _, h2⟩ := joinT_can h all.length (Nat.le_refl _)
 refine ⟨c, fun b => ?_⟩
 unfold joinL
 rw [h2 b, List.take_length]
 split
 ·rfl
 ·rename_i hn
  exact (vlB_none fun x hx e => hn ⟨x, hx, e⟩).symm
end Go.Proofs

/-
 SURD: enclose. Own work.
-/
namespace Go.Proofs
open Go Go.Pi Go.RowKit Go.Ar

/-- the common denominator -/
def denF (d : Nat) (x : Tm) : Nat := d * (x.1.den / Nat.gcd d x.1.den)
def denL (l : List Tm) : Nat := l.foldl denF 1
/-- both bounds of a sum -/
def upR (n : Nat) : Nat := if isq n then nrt n else nrt n + 1
def encF (d s : Nat) (p : Int × Int) (x : Tm) : Int × Int :=
 if ((d / x.1.den : Nat) : Int) * x.1.num < 0 then (p.1 + ((d / x.1.den : Nat) : Int) * x.1.num * (upR (x.2 * s) : Nat), p.2 + ((d / x.1.den : Nat) : Int) * x.1.num * (nrt (x.2 * s) : Nat))
 else (p.1 + ((d / x.1.den : Nat) : Int) * x.1.num * (nrt (x.2 * s) : Nat), p.2 + ((d / x.1.den : Nat) : Int) * x.1.num * (upR (x.2 * s) : Nat))
def encL (l : List Tm) (bits : Nat) : Int × Int := l.foldl (encF (denL l) (4 ^ bits)) (0, 0)
end Go.Proofs

/-
 SURD: sign, Sign, Rational, floor, Bounds. Own work.
-/
namespace Go.Proofs
open Go Go.Pi Go.RowKit Go.Ar

end Go.Proofs

/-
 SURD: floor, Bounds. Own work.
-/
namespace Go.Proofs
open Go Go.Pi Go.RowKit Go.Ar

/-- both whole parts at some bits -/
def flL (l : List Tm) (by' bits : Nat) : Int × Int := ((encL l bits).1 * by' / ((denL l * 2 ^ bits : Nat) : Int), (encL l bits).2 * by' / ((denL l * 2 ^ bits : Nat) : Int))
end Go.Proofs

/-
 SURD: the closed values of known(). Own work.
-/
namespace Go.Proofs
open Go Go.Pi Go.RowKit Go.Ar

theorem dl_small {n k : Nat} (hk : 0 < k) (h : n < 10 ^ k) : dl (n : Int) ≤ k := dd_len_le hk h
theorem rd_int {z : Int} {k : Nat} (hk : 0 < k) (h : z.natAbs < 10 ^ k) : rd (z : Rat) ≤ k := by
 rw [rd_z]; exact dd_len_le hk h
def kA : List Tm := [(99, 1), (-70, 2)]
def kB : List Tm := [(1, 2)]
def kC : List Tm := [(mkRat 1 2, 1), (-1, 5)]
theorem sok1 {x : Tm} (hx : tOk x) : SOk [x] := by
 refine ⟨by simp, fun z hz => by rw [List.mem_singleton.1 hz]; exact hx, fun i j a b hij ha hb => ?_⟩
 match i, j, ha, hb with
 | 0, j + 1, _, hb => simp at hb
 | i + 1, _, ha, _ => simp at ha
end Go.Proofs

/-
 SURD: the law's Make. Own work.
-/
namespace Go.Proofs
open Go Go.Pi Go.RowKit Go.Ar

/-- a part: numerator, denominator, root -/
abbrev Pa := Int × Int × Int
def paD (p : Pa) : List D := [.int .i8 p.1, .int .u8 p.2.1, .int .u8 p.2.2]
abbrev pas (l : List Pa) : List D := rows paD l
def okP (p : Pa) : Prop := -128 ≤ p.1 ∧ p.1 ≤ 127 ∧ 0 ≤ p.2.1 ∧ p.2.1 ≤ 255 ∧ 0 ≤ p.2.2 ∧ p.2.2 ≤ 255
def denP (p : Pa) : Nat := [1, 2, 3, 4, 6, 12].getD (p.2.1.tmod 6).toNat 1
def radP (p : Pa) : Nat := R10.getD (p.2.2.tmod 10).toNat 1
def stepP (out : List Tm) (p : Pa) : List Tm := if p.1.tmod 41 = 0 then out else joinL (out ++ [(mkRat (p.1.tmod 41) (denP p), radP p)])
def makeL (l : List Pa) : List Tm := (l.take 6).foldl stepP []
theorem getD_mem {α : Type} {l : List α} {k : Nat} {d : α} (h : d ∈ l) : l.getD k d ∈ l := by
 rw [List.getD_eq_getElem?_getD]
 cases hq : l[k]? with
 | none => exact h
 | some x => exact List.mem_of_getElem? hq
theorem radP_mem (p : Pa) : radP p ∈ R10 := getD_mem (by decide)
theorem denP_mem (p : Pa) : denP p ∈ [1, 2, 3, 4, 6, 12] := getD_mem (by decide)
theorem denP_dvd (p : Pa) : ∃ k : Nat, denP p * k = 12 ∧ k ≤ 12 ∧ 0 < denP p ∧ denP p ≤ 12 := by
 have h := denP_mem p
 generalize denP p = d at h
 simp only [List.mem_cons, List.not_mem_nil, or_false] at h
 rcases h with rfl | rfl | rfl | rfl | rfl | rfl
 ·exact ⟨12, by decide⟩
 ·exact ⟨6, by decide⟩
 ·exact ⟨4, by decide⟩
 ·exact ⟨3, by decide⟩
 ·exact ⟨2, by decide⟩
 ·exact ⟨1, by decide⟩
theorem tmod41 (n : Int) : -40 ≤ n.tmod 41 ∧ n.tmod 41 ≤ 40 := by
 have h1 : (n.tmod 41).natAbs = n.natAbs % 41 := Int.natAbs_tmod n 41
 omega

/-- what Make keeps -/
structure Mk (t : Nat) (out : List Tm) : Prop where
 can : Can out
 len : out.length ≤ t
 val : ∀ b, ∃ M : Int, M.natAbs ≤ 2400 * t ∧ vlB b out * 12 = (M : Rat)
theorem Mk.nil : Mk 0 [] := ⟨⟨fun x hx => (by cases hx), fun x hx => (by cases hx), .nil, .nil⟩, Nat.le_refl _, fun b => ⟨0, by decide, by show (0 : Rat) * 12 = _; rw [Rat.zero_mul]; rfl⟩⟩
theorem joinL_len (all : List Tm) : (joinL all).length ≤ all.length := joinT_len all _
theorem part_val (p : Pa) : ∃ M : Int, M.natAbs ≤ 2400 ∧ mkRat (p.1.tmod 41) (denP p) * ((bs (radP p)).2 : Rat) * 12 = (M : Rat) := by
 obtain ⟨k, h1, h2, h3, _⟩ := denP_dvd p
 obtain ⟨_, _, s1, s2, _⟩ := r10_form _ (radP_mem p)
 obtain ⟨n1, n2⟩ := tmod41 p.1
 generalize p.1.tmod 41 = n at *
 generalize denP p = d at *
 generalize (bs (radP p)).2 = s at *
 refine ⟨n * s * k, ?_, ?_⟩
 ·rw [Int.natAbs_mul, Int.natAbs_mul, Int.natAbs_natCast, Int.natAbs_natCast]
  have e1 : n.natAbs ≤ 40 := by omega
  have e2 := Nat.mul_le_mul (Nat.mul_le_mul e1 s2) h2
  omega
 ·rw [Rat.mkRat_eq_div, show (12 : Rat) = ((d * k : Nat) : Rat) by rw [h1]; rfl]
  have hd := nat_ne h3
  push_cast
  generalize (n : Rat) = n at *
  generalize (d : Rat) = d at *
  generalize (s : Rat) = s at *
  generalize (k : Rat) = k at *
  grind
theorem Mk.step {t : Nat} {out : List Tm} (h : Mk t out) (p : Pa) : Mk (t + 1) (stepP out p) := by
 unfold stepP
 split
 ·exact ⟨h.can, by have := h.len; omega, fun b => by obtain ⟨M, h1, h2⟩ := h.val b; exact ⟨M, by omega, h2⟩⟩
 ·have hr : inR (out ++ [(mkRat (p.1.tmod 41) (denP p), radP p)]) := by
   intro x hx
   rcases List.mem_append.1 hx with hx | hx
   ·exact h.can.rad x hx
   ·rw [List.mem_singleton.1 hx]; exact radP_mem p
  obtain ⟨c, hv⟩ := joinL_can hr
  refine ⟨c, ?_, fun b => ?_⟩
  ·have := joinL_len (out ++ [(mkRat (p.1.tmod 41) (denP p), radP p)])
   have := h.len
   rw [List.length_append, List.length_singleton] at *; omega
  ·obtain ⟨M, h1, h2⟩ := h.val b
   obtain ⟨M', h3, h4⟩ := part_val p
   rw [hv b, vlB_app]
   show ∃ N : Int, _ ∧ (vlB b out + ((if (bs (radP p)).1 = b then mkRat (p.1.tmod 41) (denP p) * ((bs (radP p)).2 : Rat) else 0) + 0)) * 12 = _
   split
   ·refine ⟨M + M', by omega, ?_⟩
    rw [Rat.intCast_add, ← h2, ← h4]; grind
   ·exact ⟨M, by omega, by rw [← h2]; grind⟩
theorem Mk.rd {t : Nat} {out : List Tm} (h : Mk t out) (ht : t ≤ 40) {x : Tm} (hx : x ∈ out) : rd x.1 ≤ 5 := by
 obtain ⟨M, h1, h2⟩ := h.val (bs x.2).1
 rw [← h.can.val hx] at h2
 obtain ⟨_, _, s1, s2, _⟩ := r10_form _ (h.can.rad x hx)
 have e : x.1 = mkRat M (12 * (bs x.2).2) := by
  rw [Rat.mkRat_eq_div, ← h2]
  have hs := nat_ne s1
  push_cast
  generalize ((bs x.2).2 : Rat) = s at *
  grind
 rw [e]
 refine rd_mk (by omega) ?_ ?_
 ·refine dd_len_le (by decide) ?_
  show M.natAbs < 100000
  omega
 ·refine dd_len_le (by decide) ?_
  omega
theorem Mk.ok {t : Nat} {out : List Tm} (h : Mk t out) (ht : t ≤ 40) : SOk out := by
 refine ⟨by have := h.len; omega, fun x hx => ?_, fun i j x y hij hx hy => ?_⟩
 ·obtain ⟨e, p1, p2, p3, p4, p5⟩ := r10_form _ (h.can.rad x hx)
  refine ⟨h.can.ne x hx, by have := h.rd ht hx; omega, ?_, ?_, fun hq => ?_⟩
  ·rw [e]; exact Nat.mul_pos (Nat.mul_pos p1 p2) p2
  ·exact Nat.le_trans (dl_small (k := 4) (by decide) (by omega)) (by decide)
  ·have h1 : (1 : Nat) ∈ R10 := by decide
   have := (r10_sq (h.can.rad x hx) h1).1 (by rw [Nat.mul_one]; exact hq)
   exact p5 this
 ·have hi := (List.getElem?_eq_some_iff.1 hx)
  have hj := (List.getElem?_eq_some_iff.1 hy)
  obtain ⟨i1, rfl⟩ := hi
  obtain ⟨j1, rfl⟩ := hj
  refine ⟨List.pairwise_iff_getElem.1 h.can.lt i j i1 j1 hij, fun hq => ?_⟩
  exact List.pairwise_iff_getElem.1 h.can.cls i j i1 j1 hij ((r10_sq (h.can.rad _ (List.getElem_mem i1)) (h.can.rad _ (List.getElem_mem j1))).1 hq)
theorem Mk.tBd {t : Nat} {out : List Tm} (h : Mk t out) (ht : t ≤ 40) : ∀ x ∈ out, tBd x := fun x hx => by
 obtain ⟨a1, a2, a3, a4, a5⟩ := (h.ok ht).ok x hx
 exact ⟨by have := h.rd ht hx; omega, a3, a4⟩
end Go.Proofs

/-
 SURD: the program's sum of a list is the reference's. Own work.
-/
namespace Go.Proofs
open Go Go.Pi Go.RowKit Go.Ar

theorem addL_cases (x : Tm) : ∀ (l : List Tm), ((∀ u ∈ l, ¬isq (u.2 * x.2)) ∧ addL l x = l ++ [x]) ∨ ∃ l1 u l2, l = l1 ++ u :: l2 ∧ isq (u.2 * x.2) ∧ addL l x = l1 ++ mrg u x :: l2
 | [] => .inl ⟨fun u hu => (by cases hu), rfl⟩
 | y :: l => by
   by_cases h : isq (y.2 * x.2)
   ·exact .inr ⟨[], y, l, rfl, h, if_pos h⟩
   ·have e : addL (y :: l) x = y :: addL l x := if_neg h
    rcases addL_cases x l with ⟨h1, h2⟩ | ⟨l1, u, l2, h1, h2, h3⟩
    ·refine .inl ⟨fun u hu => ?_, by rw [e, h2]; rfl⟩
     rcases List.mem_cons.1 hu with rfl | hu
     ·exact h
     ·exact h1 u hu
    ·exact .inr ⟨y :: l1, u, l2, by rw [h1]; rfl, h2, by rw [e, h3]; rfl⟩
/-- two alike terms as one -/
theorem mrg_spec {u t : Tm} (hu : u.2 ∈ R10) (ht : t.2 ∈ R10) (h : (bs u.2).1 = (bs t.2).1) :
  (mrg u t).2 ∈ R10 ∧ (bs (mrg u t).2).1 = (bs u.2).1 ∧ (mrg u t).1 * ((bs (mrg u t).2).2 : Rat) = u.1 * ((bs u.2).2 : Rat) + t.1 * ((bs t.2).2 : Rat) ∧ (mrg u t).2 ≤ u.2 ∧ (mrg u t).2 ≤ t.2 ∧ ((mrg u t).2 = u.2 ∨ (mrg u t).2 = t.2) := by
 unfold mrg
 split
 ·rename_i hlt
  refine ⟨ht, h.symm, ?_, by show t.2 ≤ u.2; omega, Nat.le_refl _, .inr rfl⟩
  have := r10_root hu ht h
  show (t.1 + u.1 * mkRat (nrt (u.2 * t.2)) t.2) * ((bs t.2).2 : Rat) = _
  rw [← this]; grind
 ·rename_i hlt
  refine ⟨hu, rfl, ?_, Nat.le_refl _, by show u.2 ≤ t.2; omega, .inl rfl⟩
  have := r10_root ht hu h.symm
  rw [Nat.mul_comm] at this
  show (u.1 + t.1 * mkRat (nrt (u.2 * t.2)) u.2) * ((bs u.2).2 : Rat) = _
  rw [← this]; grind
/-- what a sum keeps -/
structure Pre (all l : List Tm) : Prop where
 rad : inR l
 cls : l.Pairwise fun x y => (bs x.2).1 ≠ (bs y.2).1
 val : ∀ b, vlB b l = vlB b all
 low : ∀ y ∈ l, (∃ x ∈ all, x.2 = y.2) ∧ ∀ x ∈ all, (bs x.2).1 = (bs y.2).1 → y.2 ≤ x.2
theorem Pre.nil : Pre [] [] := ⟨fun x hx => (by cases hx), .nil, fun _ => rfl, fun x hx => (by cases hx)⟩
theorem Pre.step {all l : List Tm} (h : Pre all l) (hall : ∀ x ∈ all, ∃ y ∈ l, (bs y.2).1 = (bs x.2).1) {x : Tm} (hx : x.2 ∈ R10) :
  Pre (all ++ [x]) (addL l x) ∧ ∀ z ∈ all ++ [x], ∃ y ∈ addL l x, (bs y.2).1 = (bs z.2).1 := by
 rcases addL_cases x l with ⟨h1, h2⟩ | ⟨l1, u, l2, h1, h2, h3⟩
 ·rw [h2]
  have hn : ∀ u ∈ l, (bs u.2).1 ≠ (bs x.2).1 := fun u hu e => h1 u hu ((r10_sq (h.rad u hu) hx).2 e)
  refine ⟨⟨fun y hy => ?_, ?_, fun b => ?_, fun y hy => ?_⟩, fun z hz => ?_⟩
  ·rcases List.mem_append.1 hy with hy | hy
   ·exact h.rad y hy
   ·rw [List.mem_singleton.1 hy]; exact hx
  ·refine List.pairwise_append.2 ⟨h.cls, List.pairwise_singleton _ _, fun a ha b hb => ?_⟩
   rw [List.mem_singleton.1 hb]; exact hn a ha
  ·rw [vlB_app, vlB_app, h.val]
  ·rcases List.mem_append.1 hy with hy | hy
   ·obtain ⟨⟨z, hz, e⟩, h4⟩ := h.low y hy
    refine ⟨⟨z, List.mem_append_left _ hz, e⟩, fun w hw he => ?_⟩
    rcases List.mem_append.1 hw with hw | hw
    ·exact h4 w hw he
    ·rw [List.mem_singleton.1 hw] at he; exact absurd he.symm (hn y hy)
   ·have ey := List.mem_singleton.1 hy
    subst ey
    refine ⟨⟨y, List.mem_append_right _ hy, rfl⟩, fun w hw he => ?_⟩
    rcases List.mem_append.1 hw with hw | hw
    ·obtain ⟨v, hv, e⟩ := hall w hw
     exact absurd (e.trans he) (hn v hv)
    ·rw [List.mem_singleton.1 hw]; exact Nat.le_refl _
  ·rcases List.mem_append.1 hz with hz | hz
   ·obtain ⟨y, hy, e⟩ := hall z hz
    exact ⟨y, List.mem_append_left _ hy, e⟩
   ·exact ⟨x, List.mem_append_right _ (List.mem_singleton_self x), by rw [List.mem_singleton.1 hz]⟩
 ·have hul : u ∈ l := by rw [h1]; simp
  have hu := h.rad u hul
  have hc := (r10_sq hu hx).1 h2
  obtain ⟨m1, m2, m3, m4, m5, m6⟩ := mrg_spec hu hx hc
  rw [h3]
  generalize mrg u x = m at *
  have hcl := h.cls
  rw [h1, List.pairwise_append] at hcl
  obtain ⟨c1, c2, c3⟩ := hcl
  obtain ⟨c4, c5⟩ := List.pairwise_cons.1 c2
  have hmem : ∀ y, y ∈ l1 ++ m :: l2 → y = m ∨ (y ∈ l ∧ (bs y.2).1 ≠ (bs u.2).1) := by
   intro y hy
   rcases List.mem_append.1 hy with hy | hy
   ·exact .inr ⟨by rw [h1]; exact List.mem_append_left _ hy, c3 y hy u (List.mem_cons_self ..)⟩
   ·rcases List.mem_cons.1 hy with rfl | hy
    ·exact .inl rfl
    ·exact .inr ⟨by rw [h1]; exact List.mem_append_right _ (List.mem_cons_of_mem _ hy), (c4 y hy).symm⟩
  refine ⟨⟨fun y hy => ?_, ?_, fun b => ?_, fun y hy => ?_⟩, fun z hz => ?_⟩
  ·rcases hmem y hy with rfl | hy
   ·exact m1
   ·exact h.rad y hy.1
  ·refine List.pairwise_append.2 ⟨c1, List.pairwise_cons.2 ⟨fun a ha => by rw [m2]; exact c4 a ha, c5⟩, fun a ha b hb => ?_⟩
   rcases List.mem_cons.1 hb with rfl | hb
   ·rw [m2]; exact c3 a ha u (List.mem_cons_self ..)
   ·exact c3 a ha b (List.mem_cons_of_mem _ hb)
  ·rw [vlB_app, vlB_app b all, ← h.val b, h1, vlB_app]
   show _ + ((if (bs m.2).1 = b then m.1 * ((bs m.2).2 : Rat) else 0) + vlB b l2) = _ + ((if (bs u.2).1 = b then u.1 * ((bs u.2).2 : Rat) else 0) + vlB b l2) + ((if (bs x.2).1 = b then x.1 * ((bs x.2).2 : Rat) else 0) + 0)
   rw [m2, m3, ← hc]
   split <;> grind
  ·rcases hmem y hy with rfl | ⟨hy, hne⟩
   ·refine ⟨?_, fun w hw he => ?_⟩
    ·rcases m6 with e | e
     ·obtain ⟨⟨z, hz, e2⟩, _⟩ := h.low u hul
      exact ⟨z, List.mem_append_left _ hz, e2.trans e.symm⟩
     ·exact ⟨x, List.mem_append_right _ (List.mem_singleton_self x), e.symm⟩
    ·rcases List.mem_append.1 hw with hw | hw
     ·have := (h.low u hul).2 w hw (he.trans m2); omega
     ·rw [List.mem_singleton.1 hw]; exact m5
   ·obtain ⟨⟨z, hz, e⟩, h4⟩ := h.low y hy
    refine ⟨⟨z, List.mem_append_left _ hz, e⟩, fun w hw he => ?_⟩
    rcases List.mem_append.1 hw with hw | hw
    ·exact h4 w hw he
    ·rw [List.mem_singleton.1 hw, ← hc] at he; exact absurd he.symm hne
  ·have hm : m ∈ l1 ++ m :: l2 := by simp
   rcases List.mem_append.1 hz with hz | hz
   ·obtain ⟨y, hy, e⟩ := hall z hz
    rw [h1] at hy
    rcases List.mem_append.1 hy with hy | hy
    ·exact ⟨y, List.mem_append_left _ hy, e⟩
    ·rcases List.mem_cons.1 hy with rfl | hy
     ·exact ⟨m, hm, m2.trans e⟩
     ·exact ⟨y, List.mem_append_right _ (List.mem_cons_of_mem _ hy), e⟩
   ·rw [List.mem_singleton.1 hz]; exact ⟨m, hm, m2.trans hc⟩
theorem sorted_ext : ∀ {l m : List Tm}, (l.Pairwise fun x y => x.2 < y.2) → (m.Pairwise fun x y => x.2 < y.2) → (∀ x, x ∈ l ↔ x ∈ m) → l = m
 | [], m, _, _, h => by
   match m with
   | [] => rfl
   | y :: m => exact absurd ((h y).2 (List.mem_cons_self ..)) (by simp)
 | x :: l, [], _, _, h => absurd ((h x).1 (List.mem_cons_self ..)) (by simp)
 | x :: l, y :: m, hl, hm, h => by
   obtain ⟨l1, l2⟩ := List.pairwise_cons.1 hl
   obtain ⟨m1, m2⟩ := List.pairwise_cons.1 hm
   have e : x = y := by
    rcases List.mem_cons.1 ((h x).1 (List.mem_cons_self ..)) with e | hx
    ·exact e
    ·rcases List.mem_cons.1 ((h y).2 (List.mem_cons_self ..)) with e | hy
     ·exact e.symm
     ·have := l1 y hy; have := m1 x hx; omega
   subst e
   congr 1
   refine sorted_ext l2 m2 fun z => ⟨fun hz => ?_, fun hz => ?_⟩
   ·rcases List.mem_cons.1 ((h z).1 (List.mem_cons_of_mem _ hz)) with rfl | hz2
    ·exact absurd (l1 z hz) (Nat.lt_irrefl _)
    ·exact hz2
   ·rcases List.mem_cons.1 ((h z).2 (List.mem_cons_of_mem _ hz)) with rfl | hz2
    ·exact absurd (m1 z hz) (Nat.lt_irrefl _)
    ·exact hz2
end Go.Proofs

/-
 SURD: sums of roots that are never small: sequences of rationals, without real numbers. Own work.
-/
namespace Go.Ar

/-- the sequence goes to zero as fast as 1 / (j + 1) -/
def Sm (f : Nat → Rat) : Prop := ∃ C : Nat, ∀ j : Nat, f j * ((j : Rat) + 1) ≤ C ∧ -(C : Rat) ≤ f j * ((j : Rat) + 1)
/-- bounded -/
def Bd (f : Nat → Rat) : Prop := ∃ C : Nat, ∀ j : Nat, f j ≤ C ∧ -(C : Rat) ≤ f j

theorem cast_add (a b : Nat) : ((a + b : Nat) : Rat) = a + b := Rat.natCast_add a b
theorem cast_mul (a b : Nat) : ((a * b : Nat) : Rat) = a * b := Rat.natCast_mul a b
theorem nat_nonneg (a : Nat) : (0 : Rat) ≤ a := Rat.natCast_nonneg
theorem Sm.add {f g : Nat → Rat} (hf : Sm f) (hg : Sm g) : Sm fun j => f j + g j := by
 obtain ⟨C, hC⟩ := hf
 obtain ⟨D, hD⟩ := hg
 refine ⟨C + D, fun j => ?_⟩
 have h1 := hC j; have h2 := hD j
 rw [cast_add]
 constructor <;> grind
theorem Sm.neg {f : Nat → Rat} (hf : Sm f) : Sm fun j => -f j := by
 obtain ⟨C, hC⟩ := hf
 refine ⟨C, fun j => ?_⟩
 have h1 := hC j
 constructor <;> grind
theorem Sm.congr {f g : Nat → Rat} (hf : Sm f) (h : ∀ j, g j = f j) : Sm g := by
 have : g = f := funext h
 rw [this]; exact hf
theorem Bd.add {f g : Nat → Rat} (hf : Bd f) (hg : Bd g) : Bd fun j => f j + g j := by
 obtain ⟨C, hC⟩ := hf
 obtain ⟨D, hD⟩ := hg
 refine ⟨C + D, fun j => ?_⟩
 have h1 := hC j; have h2 := hD j
 rw [cast_add]
 constructor <;> grind
theorem Bd.neg {f : Nat → Rat} (hf : Bd f) : Bd fun j => -f j := by
 obtain ⟨C, hC⟩ := hf
 refine ⟨C, fun j => ?_⟩
 have h1 := hC j
 constructor <;> grind
/-- a product of two that are bounded -/
theorem prod_le {a b C D : Rat} (h1 : a ≤ C) (h2 : -C ≤ a) (h3 : b ≤ D) (h4 : -D ≤ b) : a * b ≤ C * D ∧ -(C * D) ≤ a * b := by
 have p1 := Rat.mul_nonneg (show 0 ≤ C - a by grind) (show 0 ≤ D - b by grind)
 have p2 := Rat.mul_nonneg (show 0 ≤ C + a by grind) (show 0 ≤ D + b by grind)
 have p3 := Rat.mul_nonneg (show 0 ≤ C - a by grind) (show 0 ≤ D + b by grind)
 have p4 := Rat.mul_nonneg (show 0 ≤ C + a by grind) (show 0 ≤ D - b by grind)
 constructor <;> grind
theorem Sm.mul {f g : Nat → Rat} (hf : Sm f) (hg : Bd g) : Sm fun j => f j * g j := by
 obtain ⟨C, hC⟩ := hf
 obtain ⟨D, hD⟩ := hg
 refine ⟨C * D, fun j => ?_⟩
 have := prod_le (hC j).1 (hC j).2 (hD j).1 (hD j).2
 rw [cast_mul]
 have e : f j * g j * ((j : Rat) + 1) = f j * ((j : Rat) + 1) * g j := by grind
 rw [e]; exact this
theorem Bd.mul {f g : Nat → Rat} (hf : Bd f) (hg : Bd g) : Bd fun j => f j * g j := by
 obtain ⟨C, hC⟩ := hf
 obtain ⟨D, hD⟩ := hg
 refine ⟨C * D, fun j => ?_⟩
 rw [cast_mul]
 exact prod_le (hC j).1 (hC j).2 (hD j).1 (hD j).2
theorem num_eq (c : Rat) : (c.num : Rat) = c * (c.den : Rat) := by
 have h : (c.den : Rat) ≠ 0 := fun e => by
  have : (c.den : Rat) = ((0 : Nat) : Rat) := by rw [e]; rfl
  exact c.den_nz (Rat.natCast_inj.1 this)
 have h2 : mkRat c.num c.den = c := Rat.mkRat_self c
 rw [Rat.mkRat_eq_div] at h2
 have key : ∀ n d c : Rat, d ≠ 0 → n / d = c → n = c * d := fun n d c h h2 => by rw [← h2]; grind
 exact key _ _ _ h h2
theorem Bd.const (c : Rat) : Bd fun _ => c := by
 refine ⟨c.num.natAbs, fun _ => ?_⟩
 have hd : (0 : Rat) < (c.den : Rat) := by have := c.den_pos; exact Rat.natCast_pos.2 this
 have hd1 : (1 : Rat) ≤ (c.den : Rat) := by
  have := Rat.natCast_le_natCast.2 (show 1 ≤ c.den from c.den_pos); exact this
 have hn := num_eq c
 have h1 : (c.num : Rat) ≤ (c.num.natAbs : Rat) := by
  have : (c.num : Int) ≤ (c.num.natAbs : Int) := by omega
  exact Rat.intCast_le_intCast.2 this
 have h2 : -(c.num.natAbs : Rat) ≤ (c.num : Rat) := by
  have : -(c.num.natAbs : Int) ≤ c.num := by omega
  have h := Rat.intCast_le_intCast.2 this
  rw [Rat.intCast_neg] at h; exact h
 have h0 := nat_nonneg c.num.natAbs
 generalize (c.num.natAbs : Rat) = N at *
 generalize (c.den : Rat) = d at *
 rw [hn] at h1 h2
 have hN := Rat.mul_nonneg h0 (show 0 ≤ d - 1 by grind)
 constructor
 ·refine Rat.not_lt.1 fun h => ?_
  have := Rat.mul_pos (show 0 < c - N by grind) hd
  grind
 ·refine Rat.not_lt.1 fun h => ?_
  have := Rat.mul_pos (show 0 < -N - c by grind) hd
  grind
/-- a constant that is small is zero -/
theorem Sm.const {c : Rat} (h : Sm fun _ => c) : c = 0 := by
 obtain ⟨C, hC⟩ := h
 refine Classical.byContradiction fun h0 => ?_
 have key : ∀ e : Rat, 0 < e → (∀ j : Nat, e * ((j : Rat) + 1) ≤ C) → False := by
  intro e he hj
  have hden : (0 : Rat) < (e.den : Rat) := Rat.natCast_pos.2 e.den_pos
  have hn := num_eq e
  have hnum : 0 < e.num := (sign_num e).2.2.2 he
  have h1 : (1 : Rat) ≤ (e.num : Rat) := Rat.intCast_le_intCast.2 (show (1 : Int) ≤ e.num by omega)
  have h2 := hj (C * e.den)
  rw [cast_mul] at h2
  have hC0 := nat_nonneg C
  generalize (C : Rat) = C at *
  generalize (e.den : Rat) = d at *
  generalize (e.num : Rat) = n at *
  have h3 : e * (C * d + 1) = C * n + e := by rw [hn]; grind
  rw [h3] at h2
  have h4 := Rat.mul_nonneg hC0 (show 0 ≤ n - 1 by grind)
  grind
 rcases (show c < 0 ∨ 0 < c by grind) with h | h
 ·exact key (-c) (by grind) fun j => by have := (hC j).2; grind
 ·exact key c h fun j => (hC j).1
end Go.Ar

/-
 SURD: the roots of 2, 3, 5, 1009 and their products are independent: sums of them are not small. Own work.
-/
namespace Go.Ar
open Go.Proofs

theorem not_sq {n : Nat} (h : n < 1100 * 1100) (h2 : sqB n = false) : ¬isq n := fun hq => by
 rw [isq_sqB h, h2] at hq; cases hq
theorem rmul_zero {a b : Rat} (h : a * b = 0) : a = 0 ∨ b = 0 := by
 by_cases ha : a = 0
 ·exact .inl ha
 ·refine .inr ?_
  have : a⁻¹ * (a * b) = 0 := by rw [h, Rat.mul_zero]
  rw [← Rat.mul_assoc, Rat.inv_mul_cancel a ha, Rat.one_mul] at this
  exact this
theorem rsq_zero {a : Rat} (h : a * a = 0) : a = 0 := (rmul_zero h).elim id id
/-- no square of a rational number is a multiple of another by a number that is no square -/
theorem A0 {n : Nat} (hn : ¬isq n) {r s : Rat} (h : r * r = (n : Rat) * (s * s)) : r = 0 ∧ s = 0 := by
 by_cases hs : s = 0
 ·rw [hs, Rat.mul_zero, Rat.mul_zero] at h
  exact ⟨rsq_zero h, hs⟩
 ·exfalso
  refine hn ?_
  have hq : (r / s) * (r / s) = (n : Rat) := by
   have key : ∀ r s n : Rat, s ≠ 0 → r * r = n * (s * s) → (r / s) * (r / s) = n := fun r s n h0 h => by grind
   exact key r s n hs h
  generalize r / s = q at hq
  have e := num_eq q
  have hden : (q.den : Rat) ≠ 0 := fun e2 => by
   have : (q.den : Rat) = ((0 : Nat) : Rat) := by rw [e2]; rfl
   exact q.den_nz (Rat.natCast_inj.1 this)
  have h2 : (q.num : Rat) * (q.num : Rat) = (n : Rat) * ((q.den : Rat) * (q.den : Rat)) := by rw [e, ← hq]; grind
  have h3 : q.num * q.num = (n : Int) * ((q.den : Int) * (q.den : Int)) := by
   refine Rat.intCast_inj.1 ?_
   rw [Rat.intCast_mul, Rat.intCast_mul, Rat.intCast_mul]
   exact h2
  have h4 : q.num.natAbs * q.num.natAbs = n * (q.den * q.den) := by
   have := congrArg Int.natAbs h3
   rw [Int.natAbs_mul, Int.natAbs_mul, Int.natAbs_mul] at this
   exact this
  have hc : Nat.Coprime q.den q.num.natAbs := q.reduced.symm
  have hd : q.den ∣ q.num.natAbs := hc.dvd_of_dvd_mul_left (by rw [h4]; exact ⟨n * q.den, by grind⟩)
  have h1 : q.den = 1 := Nat.Coprime.eq_one_of_dvd hc hd
  rw [h1] at h4
  have : n = q.num.natAbs * q.num.natAbs := by omega
  rw [this]; exact isq_sq _

/-- the same over the root of 2 -/
theorem A1 {n : Nat} (h1 : ¬isq n) (h2 : ¬isq (2 * n)) {u1 u2 w1 w2 : Rat} (e1 : u1 * u1 + 2 * (u2 * u2) = n * (w1 * w1 + 2 * (w2 * w2))) (e2 : u1 * u2 = n * (w1 * w2)) : (u1 = 0 ∧ u2 = 0) ∧ w1 = 0 ∧ w2 = 0 := by
 have hp : (u1 * u1 - 2 * (u2 * u2) - n * (w1 * w1 - 2 * (w2 * w2))) * (u1 * u1 - 2 * (u2 * u2) + n * (w1 * w1 - 2 * (w2 * w2))) = 0 := by
  generalize (n : Rat) = m at *
  have a1 : (u1 * u1 + 2 * (u2 * u2)) * (u1 * u1 + 2 * (u2 * u2)) = (m * (w1 * w1 + 2 * (w2 * w2))) * (m * (w1 * w1 + 2 * (w2 * w2))) := by rw [e1]
  have a2 : (u1 * u2) * (u1 * u2) = (m * (w1 * w2)) * (m * (w1 * w2)) := by rw [e2]
  clear e1 e2
  grind
 rcases rmul_zero hp with h | h
 ·have f1 := A0 h1 (r := u1) (s := w1) (by grind)
  have f2 := A0 h1 (r := u2) (s := w2) (by grind)
  exact ⟨⟨f1.1, f2.1⟩, f1.2, f2.2⟩
 ·have f1 := A0 h2 (r := u1) (s := w2) (by rw [Go.Ar.cast_mul]; grind)
  have f2 := A0 h2 (r := 2 * u2) (s := w1) (by rw [Go.Ar.cast_mul]; grind)
  exact ⟨⟨f1.1, by grind⟩, f2.2, f1.2⟩
theorem sq2 : ¬isq 2 := not_sq (by decide) (by decide +kernel)
theorem sq3 : ¬isq 3 := not_sq (by decide) (by decide +kernel)
theorem sq5 : ¬isq 5 := not_sq (by decide) (by decide +kernel)
theorem sq6 : ¬isq 6 := not_sq (by decide) (by decide +kernel)
theorem ND1 {u1 u2 w1 w2 : Rat} (e1 : u1 * w1 + 2 * (u2 * w2) = 0) (e2 : u1 * w2 + u2 * w1 = 0) : (u1 = 0 ∧ u2 = 0) ∨ (w1 = 0 ∧ w2 = 0) := by
 have a1 : (u1 * u1 - 2 * (u2 * u2)) * w1 = 0 := by grind
 have a2 : (u1 * u1 - 2 * (u2 * u2)) * w2 = 0 := by grind
 by_cases h : u1 * u1 - 2 * (u2 * u2) = 0
 ·exact .inl (A0 sq2 (r := u1) (s := u2) (by have : ((2 : Nat) : Rat) = 2 := rfl; grind))
 ·exact .inr ⟨(rmul_zero a1).resolve_left h, (rmul_zero a2).resolve_left h⟩

/-- the same over the roots of 2 and 3 -/
theorem A2 {n : Nat} (h1 : ¬isq n) (h2 : ¬isq (2 * n)) (h3 : ¬isq (3 * n)) (h6 : ¬isq (2 * (3 * n))) {u1 u2 v1 v2 w1 w2 t1 t2 : Rat}
  (e1 : u1 * u1 + 2 * (u2 * u2) + 3 * (v1 * v1 + 2 * (v2 * v2)) = n * (w1 * w1 + 2 * (w2 * w2) + 3 * (t1 * t1 + 2 * (t2 * t2))))
  (e2 : u1 * u2 + 3 * (v1 * v2) = n * (w1 * w2 + 3 * (t1 * t2))) (e3 : u1 * v1 + 2 * (u2 * v2) = n * (w1 * t1 + 2 * (w2 * t2))) (e4 : u1 * v2 + u2 * v1 = n * (w1 * t2 + w2 * t1)) :
  (u1 = 0 ∧ u2 = 0 ∧ v1 = 0 ∧ v2 = 0) ∧ w1 = 0 ∧ w2 = 0 ∧ t1 = 0 ∧ t2 = 0 := by
 have hp : ∀ m : Rat, u1 * u1 + 2 * (u2 * u2) + 3 * (v1 * v1 + 2 * (v2 * v2)) = m * (w1 * w1 + 2 * (w2 * w2) + 3 * (t1 * t1 + 2 * (t2 * t2))) →
   u1 * u2 + 3 * (v1 * v2) = m * (w1 * w2 + 3 * (t1 * t2)) → u1 * v1 + 2 * (u2 * v2) = m * (w1 * t1 + 2 * (w2 * t2)) → u1 * v2 + u2 * v1 = m * (w1 * t2 + w2 * t1) →
   (let p1 := u1 * u1 + 2 * (u2 * u2) - 3 * (v1 * v1 + 2 * (v2 * v2)); let p2 := 2 * (u1 * u2 - 3 * (v1 * v2)); let q1 := m * (w1 * w1 + 2 * (w2 * w2) - 3 * (t1 * t1 + 2 * (t2 * t2))); let q2 := 2 * (m * (w1 * w2 - 3 * (t1 * t2)));
    (p1 - q1) * (p1 + q1) + 2 * ((p2 - q2) * (p2 + q2)) = 0 ∧ (p1 - q1) * (p2 + q2) + (p2 - q2) * (p1 + q1) = 0) := by
  intro m e1 e2 e3 e4 p1 p2 q1 q2
  -- the squares of both, as (U² + 3 V²)² - 12 (U V)²
  have a1 : p1 * p1 + 2 * (p2 * p2) = (u1 * u1 + 2 * (u2 * u2) + 3 * (v1 * v1 + 2 * (v2 * v2))) * (u1 * u1 + 2 * (u2 * u2) + 3 * (v1 * v1 + 2 * (v2 * v2))) + 8 * ((u1 * u2 + 3 * (v1 * v2)) * (u1 * u2 + 3 * (v1 * v2))) - 12 * ((u1 * v1 + 2 * (u2 * v2)) * (u1 * v1 + 2 * (u2 * v2)) + 2 * ((u1 * v2 + u2 * v1) * (u1 * v2 + u2 * v1))) := by grind
  have a2 : q1 * q1 + 2 * (q2 * q2) = (m * (w1 * w1 + 2 * (w2 * w2) + 3 * (t1 * t1 + 2 * (t2 * t2)))) * (m * (w1 * w1 + 2 * (w2 * w2) + 3 * (t1 * t1 + 2 * (t2 * t2)))) + 8 * ((m * (w1 * w2 + 3 * (t1 * t2))) * (m * (w1 * w2 + 3 * (t1 * t2)))) - 12 * ((m * (w1 * t1 + 2 * (w2 * t2))) * (m * (w1 * t1 + 2 * (w2 * t2))) + 2 * ((m * (w1 * t2 + w2 * t1)) * (m * (w1 * t2 + w2 * t1)))) := by grind
  have a3 : p1 * p2 = 2 * ((u1 * u1 + 2 * (u2 * u2) + 3 * (v1 * v1 + 2 * (v2 * v2))) * (u1 * u2 + 3 * (v1 * v2))) - 12 * ((u1 * v1 + 2 * (u2 * v2)) * (u1 * v2 + u2 * v1)) := by grind
  have a4 : q1 * q2 = 2 * ((m * (w1 * w1 + 2 * (w2 * w2) + 3 * (t1 * t1 + 2 * (t2 * t2)))) * (m * (w1 * w2 + 3 * (t1 * t2)))) - 12 * ((m * (w1 * t1 + 2 * (w2 * t2))) * (m * (w1 * t2 + w2 * t1))) := by grind
  rw [e1, e2, e3, e4, ← a2] at a1
  rw [e1, e2, e3, e4, ← a4] at a3
  generalize p1 = p1 at *; generalize p2 = p2 at *; generalize q1 = q1 at *; generalize q2 = q2 at *
  clear e1 e2 e3 e4 a2 a4
  constructor <;> grind
 obtain ⟨b1, b2⟩ := hp n e1 e2 e3 e4
 clear hp
 rcases ND1 b1 b2 with ⟨c1, c2⟩ | ⟨c1, c2⟩
 ·have f1 := A1 h1 h2 (u1 := u1) (u2 := u2) (w1 := w1) (w2 := w2) (by grind) (by grind)
  have f2 := A1 h1 h2 (u1 := v1) (u2 := v2) (w1 := t1) (w2 := t2) (by grind) (by grind)
  exact ⟨⟨f1.1.1, f1.1.2, f2.1.1, f2.1.2⟩, f1.2.1, f1.2.2, f2.2.1, f2.2.2⟩
 ·have f1 := A1 h3 h6 (u1 := u1) (u2 := u2) (w1 := t1) (w2 := t2) (by rw [Go.Ar.cast_mul]; grind) (by rw [Go.Ar.cast_mul]; grind)
  have f2 := A1 h3 h6 (u1 := 3 * v1) (u2 := 3 * v2) (w1 := w1) (w2 := w2) (by rw [Go.Ar.cast_mul]; grind) (by rw [Go.Ar.cast_mul]; grind)
  exact ⟨⟨f1.1.1, f1.1.2, by grind, by grind⟩, f2.2.1, f2.2.2, f1.2.1, f1.2.2⟩
end Go.Ar

/-
 SURD: sums of independent roots are not small. Own work.
-/
namespace Go.Ar
open Go.Proofs

theorem ND2 {u1 u2 v1 v2 w1 w2 t1 t2 : Rat} (e1 : u1 * w1 + 2 * (u2 * w2) + 3 * (v1 * t1 + 2 * (v2 * t2)) = 0) (e2 : u1 * w2 + u2 * w1 + 3 * (v1 * t2 + v2 * t1) = 0)
  (e3 : u1 * t1 + 2 * (u2 * t2) + (v1 * w1 + 2 * (v2 * w2)) = 0) (e4 : u1 * t2 + u2 * t1 + (v1 * w2 + v2 * w1) = 0) :
  (u1 = 0 ∧ u2 = 0 ∧ v1 = 0 ∧ v2 = 0) ∨ (w1 = 0 ∧ w2 = 0 ∧ t1 = 0 ∧ t2 = 0) := by
 -- the norm of the first factor times the second one
 have a1 : (u1 * u1 + 2 * (u2 * u2) - 3 * (v1 * v1 + 2 * (v2 * v2))) * w1 + 2 * ((2 * (u1 * u2 - 3 * (v1 * v2))) * w2) = 0 := by grind
 have a2 : (u1 * u1 + 2 * (u2 * u2) - 3 * (v1 * v1 + 2 * (v2 * v2))) * w2 + (2 * (u1 * u2 - 3 * (v1 * v2))) * w1 = 0 := by grind
 have a3 : (u1 * u1 + 2 * (u2 * u2) - 3 * (v1 * v1 + 2 * (v2 * v2))) * t1 + 2 * ((2 * (u1 * u2 - 3 * (v1 * v2))) * t2) = 0 := by grind
 have a4 : (u1 * u1 + 2 * (u2 * u2) - 3 * (v1 * v1 + 2 * (v2 * v2))) * t2 + (2 * (u1 * u2 - 3 * (v1 * v2))) * t1 = 0 := by grind
 have hz : (u1 * u1 + 2 * (u2 * u2) - 3 * (v1 * v1 + 2 * (v2 * v2)) = 0 ∧ 2 * (u1 * u2 - 3 * (v1 * v2)) = 0) → (u1 = 0 ∧ u2 = 0) ∧ v1 = 0 ∧ v2 = 0 := fun ⟨b1, b2⟩ =>
  A1 (n := 3) sq3 sq6 (by have : ((3 : Nat) : Rat) = 3 := rfl; grind) (by have : ((3 : Nat) : Rat) = 3 := rfl; grind)
 rcases ND1 a1 a2 with h | h
 ·obtain ⟨⟨c1, c2⟩, c3, c4⟩ := hz h
  exact .inl ⟨c1, c2, c3, c4⟩
 ·rcases ND1 a3 a4 with h2 | h2
  ·obtain ⟨⟨c1, c2⟩, c3, c4⟩ := hz h2
   exact .inl ⟨c1, c2, c3, c4⟩
  ·exact .inr ⟨h.1, h.2, h2.1, h2.2⟩

/-- approximations of the roots of 2, 3, 5 and 1009 -/
structure Apx (a b c d : Nat → Rat) : Prop where
 ba : Bd a
 bb : Bd b
 bc : Bd c
 bd : Bd d
 sa : Sm fun j => a j * a j - 2
 sb : Sm fun j => b j * b j - 3
 sc : Sm fun j => c j * c j - 5
 sd : Sm fun j => d j * d j - 1009

theorem Sm.sub {f g : Nat → Rat} (hf : Sm f) (hg : Sm g) : Sm fun j => f j - g j := (hf.add hg.neg).congr fun j => by grind
theorem Sm.of {f g h : Nat → Rat} (hf : Sm f) (hg : Sm g) (e : ∀ j, h j = f j + g j) : Sm h := (hf.add hg).congr e

variable {a b c d : Nat → Rat}
theorem Apx.one (A : Apx a b c d) {x1 x2 : Rat} (h : Sm fun j => x1 + x2 * a j) : x1 = 0 ∧ x2 = 0 := by
 have h1 := h.mul ((Bd.const x1).add ((Bd.const (-x2)).mul A.ba))
 have h2 := A.sa.mul (Bd.const (x2 * x2))
 have h3 : Sm fun _ => x1 * x1 - 2 * (x2 * x2) := h1.of h2 fun j => by grind
 have e := h3.const
 exact A0 sq2 (by have : ((2 : Nat) : Rat) = 2 := rfl; grind)
theorem Apx.two (A : Apx a b c d) {u1 u2 v1 v2 : Rat} (h : Sm fun j => (u1 + u2 * a j) + (v1 + v2 * a j) * b j) : (u1 = 0 ∧ u2 = 0) ∧ v1 = 0 ∧ v2 = 0 := by
 have bu : ∀ p q : Rat, Bd fun j => p + q * a j := fun p q => (Bd.const p).add ((Bd.const q).mul A.ba)
 have h1 := h.mul ((bu u1 u2).add (((bu v1 v2).mul A.bb).neg))
 have h2 := A.sb.mul ((bu v1 v2).mul (bu v1 v2))
 have h3 := A.sa.mul (Bd.const (3 * (v2 * v2) - u2 * u2))
 have h4 : Sm fun j => (u1 * u1 + 2 * (u2 * u2) - 3 * (v1 * v1 + 2 * (v2 * v2))) + (2 * (u1 * u2 - 3 * (v1 * v2))) * a j := ((h1.add h2).add h3).congr fun j => by grind
 obtain ⟨e1, e2⟩ := A.one h4
 exact A1 (n := 3) sq3 sq6 (by have : ((3 : Nat) : Rat) = 3 := rfl; grind) (by have : ((3 : Nat) : Rat) = 3 := rfl; grind)
/-- a sum over the roots of 2 and 3 -/
def kv (a b : Nat → Rat) (u1 u2 v1 v2 : Rat) (j : Nat) : Rat := (u1 + u2 * a j) + (v1 + v2 * a j) * b j
theorem Apx.kvB (A : Apx a b c d) (u1 u2 v1 v2 : Rat) : Bd (kv a b u1 u2 v1 v2) :=
 ((Bd.const u1).add ((Bd.const u2).mul A.ba)).add (((Bd.const v1).add ((Bd.const v2).mul A.ba)).mul A.bb)
/-- products of such sums, up to small ones -/
theorem Apx.kvM (A : Apx a b c d) (u1 u2 v1 v2 w1 w2 t1 t2 : Rat) : Sm fun j => kv a b u1 u2 v1 v2 j * kv a b w1 w2 t1 t2 j -
  kv a b (u1 * w1 + 2 * (u2 * w2) + 3 * (v1 * t1 + 2 * (v2 * t2))) (u1 * w2 + u2 * w1 + 3 * (v1 * t2 + v2 * t1)) (u1 * t1 + 2 * (u2 * t2) + (v1 * w1 + 2 * (v2 * w2))) (u1 * t2 + u2 * t1 + (v1 * w2 + v2 * w1)) j := by
 have bu : ∀ p q : Rat, Bd fun j => p + q * a j := fun p q => (Bd.const p).add ((Bd.const q).mul A.ba)
 have h2 := A.sb.mul ((bu v1 v2).mul (bu t1 t2))
 have h3 := A.sa.mul ((Bd.const (u2 * w2 + 3 * (v2 * t2))).add ((Bd.const (u2 * t2 + v2 * w2)).mul A.bb))
 exact (h2.add h3).congr fun j => by unfold kv; grind
theorem sq10 : ¬isq (2 * 5) := not_sq (by decide) (by decide +kernel)
theorem sq15 : ¬isq (3 * 5) := not_sq (by decide) (by decide +kernel)
theorem sq30 : ¬isq (2 * (3 * 5)) := not_sq (by decide) (by decide +kernel)
theorem Apx.three (A : Apx a b c d) {u1 u2 v1 v2 w1 w2 t1 t2 : Rat} (h : Sm fun j => kv a b u1 u2 v1 v2 j + kv a b w1 w2 t1 t2 j * c j) :
  (u1 = 0 ∧ u2 = 0 ∧ v1 = 0 ∧ v2 = 0) ∧ w1 = 0 ∧ w2 = 0 ∧ t1 = 0 ∧ t2 = 0 := by
 have bX := A.kvB u1 u2 v1 v2
 have bY := A.kvB w1 w2 t1 t2
 have h1 := h.mul (bX.add ((bY.mul A.bc).neg))
 have h2 := A.sc.mul (bY.mul bY)
 have h3 := A.kvM u1 u2 v1 v2 u1 u2 v1 v2
 have h4 := (A.kvM w1 w2 t1 t2 w1 w2 t1 t2).mul (Bd.const 5)
 have h5 : Sm fun j => (u1 * u1 + 2 * (u2 * u2) + 3 * (v1 * v1 + 2 * (v2 * v2)) - 5 * (w1 * w1 + 2 * (w2 * w2) + 3 * (t1 * t1 + 2 * (t2 * t2))) + (2 * (u1 * u2 + 3 * (v1 * v2) - 5 * (w1 * w2 + 3 * (t1 * t2)))) * a j) +
   (2 * (u1 * v1 + 2 * (u2 * v2) - 5 * (w1 * t1 + 2 * (w2 * t2))) + (2 * (u1 * v2 + u2 * v1 - 5 * (w1 * t2 + w2 * t1))) * a j) * b j := by
  refine (((h1.add h2).sub h3).add h4).congr fun j => ?_
  simp only [kv]
  generalize a j = p; generalize b j = q; generalize c j = r
  grind
 obtain ⟨⟨e1, e2⟩, e3, e4⟩ := A.two h5
 have f5 : ((5 : Nat) : Rat) = 5 := rfl
 exact A2 (n := 5) sq5 sq10 sq15 sq30 (by grind) (by grind) (by grind) (by grind)
theorem sq1009 : ¬isq 1009 := not_sq (by decide) (by decide +kernel)
theorem sq2018 : ¬isq (2 * 1009) := not_sq (by decide) (by decide +kernel)
theorem sq3027 : ¬isq (3 * 1009) := not_sq (by decide) (by decide +kernel)
theorem sq6054 : ¬isq (2 * (3 * 1009)) := not_sq (by decide) (by decide +kernel)
theorem sq5045 : ¬isq 5045 := not_sq (by decide) (by decide +kernel)
theorem sq10090 : ¬isq (2 * 5045) := not_sq (by decide) (by decide +kernel)
theorem sq15135 : ¬isq (3 * 5045) := not_sq (by decide) (by decide +kernel)
theorem sq30270 : ¬isq (2 * (3 * 5045)) := not_sq (by decide) (by decide +kernel)
theorem Apx.four (A : Apx a b c d) {u1 u2 v1 v2 w1 w2 t1 t2 z : Rat} (h : Sm fun j => kv a b u1 u2 v1 v2 j + kv a b w1 w2 t1 t2 j * c j + z * d j) :
  (u1 = 0 ∧ u2 = 0 ∧ v1 = 0 ∧ v2 = 0) ∧ (w1 = 0 ∧ w2 = 0 ∧ t1 = 0 ∧ t2 = 0) ∧ z = 0 := by
 have hz : z = 0 := by
  have bX := A.kvB u1 u2 v1 v2
  have bY := A.kvB w1 w2 t1 t2
  have h1 := h.mul ((bX.add (bY.mul A.bc)).add (((Bd.const z).mul A.bd).neg))
  have h2 := A.sd.mul (Bd.const (z * z))
  have h3 := A.kvM u1 u2 v1 v2 u1 u2 v1 v2
  have h4 := (A.kvM w1 w2 t1 t2 w1 w2 t1 t2).mul (Bd.const 5)
  have h5 := A.sc.mul (bY.mul bY)
  have h6 := (A.kvM u1 u2 v1 v2 w1 w2 t1 t2).mul ((Bd.const 2).mul A.bc)
  have h7 : Sm fun j => kv a b (u1 * u1 + 2 * (u2 * u2) + 3 * (v1 * v1 + 2 * (v2 * v2)) + 5 * (w1 * w1 + 2 * (w2 * w2) + 3 * (t1 * t1 + 2 * (t2 * t2))) - 1009 * (z * z))
    (2 * (u1 * u2 + 3 * (v1 * v2)) + 10 * (w1 * w2 + 3 * (t1 * t2))) (2 * (u1 * v1 + 2 * (u2 * v2)) + 10 * (w1 * t1 + 2 * (w2 * t2))) (2 * (u1 * v2 + u2 * v1) + 10 * (w1 * t2 + w2 * t1)) j +
    kv a b (2 * (u1 * w1 + 2 * (u2 * w2) + 3 * (v1 * t1 + 2 * (v2 * t2)))) (2 * (u1 * w2 + u2 * w1 + 3 * (v1 * t2 + v2 * t1))) (2 * (u1 * t1 + 2 * (u2 * t2) + (v1 * w1 + 2 * (v2 * w2)))) (2 * (u1 * t2 + u2 * t1 + (v1 * w2 + v2 * w1))) j * c j := by
   refine (((((h1.add h2).sub h3).sub h4).sub h5).sub h6).congr fun j => ?_
   simp only [kv]
   generalize a j = p; generalize b j = q; generalize c j = r; generalize d j = s
   grind
  obtain ⟨⟨e1, e2, e3, e4⟩, e5, e6, e7, e8⟩ := A.three h7
  rcases ND2 (u1 := u1) (u2 := u2) (v1 := v1) (v2 := v2) (w1 := w1) (w2 := w2) (t1 := t1) (t2 := t2) (by grind) (by grind) (by grind) (by grind) with ⟨rfl, rfl, rfl, rfl⟩ | ⟨rfl, rfl, rfl, rfl⟩
  ·have f : ((5045 : Nat) : Rat) = 5045 := rfl
   exact (A2 (n := 5045) sq5045 sq10090 sq15135 sq30270 (u1 := 5 * w1) (u2 := 5 * w2) (v1 := 5 * t1) (v2 := 5 * t2) (w1 := z) (w2 := 0) (t1 := 0) (t2 := 0) (by grind) (by grind) (by grind) (by grind)).2.1
  ·have f : ((1009 : Nat) : Rat) = 1009 := rfl
   exact (A2 (n := 1009) sq1009 sq2018 sq3027 sq6054 (u1 := u1) (u2 := u2) (v1 := v1) (v2 := v2) (w1 := z) (w2 := 0) (t1 := 0) (t2 := 0) (by grind) (by grind) (by grind) (by grind)).2.1
 subst hz
 have h2 : Sm fun j => kv a b u1 u2 v1 v2 j + kv a b w1 w2 t1 t2 j * c j := h.congr fun j => by grind
 obtain ⟨f1, f2⟩ := A.three h2
 exact ⟨f1, f2, rfl⟩
end Go.Ar

/-
 SURD: sums of independent roots, approximated at one scale, are not small: with numbers. Own work.
-/
namespace Go.Ar.At
open Go.Ar Go.Proofs

/-- x is at most C / N; at most C; a multiple of 1 / D -/
def Sm (N C : Nat) (x : Rat) : Prop := x * N ≤ C ∧ -(C : Rat) ≤ x * N
def Bd (C : Nat) (x : Rat) : Prop := x ≤ C ∧ -(C : Rat) ≤ x
def Dn (D : Nat) (x : Rat) : Prop := ∃ m : Int, x * D = m
variable {N C E D : Nat} {x y : Rat}
theorem Sm.add (hx : Sm N C x) (hy : Sm N E y) : Sm N (C + E) (x + y) := by
 unfold Sm at *; rw [cast_add]; constructor <;> grind
theorem Sm.sub (hx : Sm N C x) (hy : Sm N E y) : Sm N (C + E) (x - y) := by
 unfold Sm at *; rw [cast_add]; constructor <;> grind
theorem Sm.neg (hx : Sm N C x) : Sm N C (-x) := by unfold Sm at *; constructor <;> grind
theorem Sm.congr (hx : Sm N C x) (h : y = x) : Sm N C y := by rw [h]; exact hx
theorem Sm.le (hx : Sm N C x) (h : C ≤ E) : Sm N E x := by
 have := Rat.natCast_le_natCast.2 h
 unfold Sm at *; constructor <;> grind
theorem Bd.add (hx : Bd C x) (hy : Bd E y) : Bd (C + E) (x + y) := by
 unfold Bd at *; rw [cast_add]; constructor <;> grind
theorem Bd.sub (hx : Bd C x) (hy : Bd E y) : Bd (C + E) (x - y) := by
 unfold Bd at *; rw [cast_add]; constructor <;> grind
theorem Bd.neg (hx : Bd C x) : Bd C (-x) := by unfold Bd at *; constructor <;> grind
theorem Bd.le (hx : Bd C x) (h : C ≤ E) : Bd E x := by
 have := Rat.natCast_le_natCast.2 h
 unfold Bd at *; constructor <;> grind
theorem Sm.mul (hx : Sm N C x) (hy : Bd E y) : Sm N (C * E) (x * y) := by
 have := prod_le hx.1 hx.2 hy.1 hy.2
 unfold Sm; rw [cast_mul]
 have e : x * y * (N : Rat) = x * (N : Rat) * y := by grind
 rw [e]; exact this
theorem Bd.mul (hx : Bd C x) (hy : Bd E y) : Bd (C * E) (x * y) := by
 unfold Bd; rw [cast_mul]; exact prod_le hx.1 hx.2 hy.1 hy.2
theorem Bd.nat (n : Nat) : Bd n (n : Rat) := by
 have := nat_nonneg n
 unfold Bd; constructor <;> grind
theorem Dn.add (hx : Dn D x) (hy : Dn D y) : Dn D (x + y) := by
 obtain ⟨m, hm⟩ := hx; obtain ⟨n, hn⟩ := hy
 exact ⟨m + n, by rw [Rat.intCast_add, ← hm, ← hn]; grind⟩
theorem Dn.sub (hx : Dn D x) (hy : Dn D y) : Dn D (x - y) := by
 obtain ⟨m, hm⟩ := hx; obtain ⟨n, hn⟩ := hy
 exact ⟨m - n, by rw [Rat.intCast_sub, ← hm, ← hn]; grind⟩
theorem Dn.mul (hx : Dn D x) (hy : Dn E y) : Dn (D * E) (x * y) := by
 obtain ⟨m, hm⟩ := hx; obtain ⟨n, hn⟩ := hy
 exact ⟨m * n, by rw [Rat.intCast_mul, cast_mul, ← hm, ← hn]; grind⟩
theorem Dn.smul (k : Nat) (hx : Dn D x) : Dn D ((k : Rat) * x) := by
 obtain ⟨m, hm⟩ := hx
 exact ⟨k * m, by rw [Rat.intCast_mul, ← hm]; show _ = (k : Rat) * _; grind⟩
theorem Sm.zero (hx : Sm N C x) (hd : Dn D x) (hD : 0 < D) (h : C * D < N) : x = 0 := by
 obtain ⟨m, hm⟩ := hd
 have hDp := nat_ne hD
 have hlt : ((C * D : Nat) : Rat) < (N : Rat) := Rat.natCast_lt_natCast.2 h
 rw [cast_mul] at hlt
 have hDn := nat_nonneg D
 have hNn := nat_nonneg N
 have p1 := Rat.mul_nonneg (show 0 ≤ (C : Rat) - x * N by have := hx.1; grind) hDn
 have p2 := Rat.mul_nonneg (show 0 ≤ (C : Rat) + x * N by have := hx.2; grind) hDn
 have b1 : (m : Rat) * N < N := by rw [← hm]; grind
 have b2 : -(N : Rat) < (m : Rat) * N := by rw [← hm]; grind
 have h1 : m < 1 := by
  refine Int.not_le.1 fun h1 => ?_
  have := Rat.mul_nonneg (show 0 ≤ (m : Rat) - 1 by have : ((1 : Int) : Rat) ≤ (m : Rat) := Rat.intCast_le_intCast.2 h1; have e : ((1 : Int) : Rat) = 1 := rfl; grind) hNn
  grind
 have h2 : -1 < m := by
  refine Int.not_le.1 fun h1 => ?_
  have := Rat.mul_nonneg (show 0 ≤ -1 - (m : Rat) by have : (m : Rat) ≤ ((-1 : Int) : Rat) := Rat.intCast_le_intCast.2 h1; have e : ((-1 : Int) : Rat) = -1 := rfl; grind) hNn
  grind
 have h0 : m = 0 := by omega
 rw [h0] at hm
 have e : x * (D : Rat) = 0 := hm
 exact (rmul_zero e).resolve_right hDp

/-- approximations of the roots of 2, 3, 5, 1009 at the scale N -/
structure Ap (N : Nat) (a b c d : Rat) : Prop where
 ba : Bd 2 a
 bb : Bd 2 b
 bc : Bd 3 c
 bd : Bd 32 d
 sa : Sm N 4 (a * a - 2)
 sb : Sm N 4 (b * b - 3)
 sc : Sm N 6 (c * c - 5)
 sd : Sm N 64 (d * d - 1009)
variable {a b c d : Rat} {M : Nat}
def o1 (C M : Nat) : Nat := C * (M + M * 2) + 4 * (M * M)
theorem Ap.one (A : Ap N a b c d) {x1 x2 : Rat} (h : Sm N C (x1 + x2 * a)) (b1 : Bd M x1) (b2 : Bd M x2) (d1 : Dn D x1) (d2 : Dn D x2) (hD : 0 < D) (hN : o1 C M * (D * D) < N) : x1 = 0 ∧ x2 = 0 := by
 have h1 := h.mul (b1.sub (b2.mul A.ba))
 have h2 := A.sa.mul (b2.mul b2)
 have h3 : Sm N _ (x1 * x1 - 2 * (x2 * x2)) := (h1.add h2).congr (by grind)
 have dn : Dn (D * D) (x1 * x1 - 2 * (x2 * x2)) := (d1.mul d1).sub ((d2.mul d2).smul 2)
 have e := h3.zero dn (Nat.mul_pos hD hD) hN
 exact A0 sq2 (by have : ((2 : Nat) : Rat) = 2 := rfl; grind)
def kv (a b u1 u2 v1 v2 : Rat) : Rat := (u1 + u2 * a) + (v1 + v2 * a) * b
def c2 (C M : Nat) : Nat := C * ((M + M * 2) + (M + M * 2) * 2) + 4 * ((M + M * 2) * (M + M * 2)) + 4 * (3 * (M * M) + M * M)
def m2 (M : Nat) : Nat := 12 * (M * M)
/-- four coordinates with bounds -/
structure Co (M D : Nat) (u1 u2 v1 v2 : Rat) : Prop where
 b1 : Bd M u1
 b2 : Bd M u2
 b3 : Bd M v1
 b4 : Bd M v2
 d1 : Dn D u1
 d2 : Dn D u2
 d3 : Dn D v1
 d4 : Dn D v2
theorem Bd.smul (k : Nat) (hx : Bd C x) : Bd (k * C) ((k : Rat) * x) := (Bd.nat k).mul hx
theorem Ap.two (A : Ap N a b c d) {u1 u2 v1 v2 : Rat} (h : Sm N C (kv a b u1 u2 v1 v2)) (k : Co M D u1 u2 v1 v2) (hD : 0 < D) (hN : o1 (c2 C M) (m2 M) * (D * D * (D * D)) < N) : (u1 = 0 ∧ u2 = 0) ∧ v1 = 0 ∧ v2 = 0 := by
 have bU := k.b1.add (k.b2.mul A.ba)
 have bV := k.b3.add (k.b4.mul A.ba)
 have h1 := h.mul (bU.sub (bV.mul A.bb))
 have h2 := A.sb.mul (bV.mul bV)
 have h3 := A.sa.mul (((k.b4.mul k.b4).smul 3).sub (k.b2.mul k.b2))
 have h4 : Sm N (c2 C M) ((u1 * u1 + 2 * (u2 * u2) - 3 * (v1 * v1 + 2 * (v2 * v2))) + (2 * (u1 * u2 - 3 * (v1 * v2))) * a) := ((h1.add h2).add h3).congr (by unfold kv; have : ((3 : Nat) : Rat) = 3 := rfl; rw [this]; grind)
 have q1 : Bd (m2 M) (u1 * u1 + 2 * (u2 * u2) - 3 * (v1 * v1 + 2 * (v2 * v2))) :=
  (((k.b1.mul k.b1).add ((k.b2.mul k.b2).smul 2)).sub (((k.b3.mul k.b3).add ((k.b4.mul k.b4).smul 2)).smul 3)).le (by unfold m2; generalize M * M = q; omega)
 have q2 : Bd (m2 M) (2 * (u1 * u2 - 3 * (v1 * v2))) := (((k.b1.mul k.b2).sub ((k.b3.mul k.b4).smul 3)).smul 2).le (by unfold m2; generalize M * M = q; omega)
 have n1 : Dn (D * D) (u1 * u1 + 2 * (u2 * u2) - 3 * (v1 * v1 + 2 * (v2 * v2))) := ((k.d1.mul k.d1).add ((k.d2.mul k.d2).smul 2)).sub (((k.d3.mul k.d3).add ((k.d4.mul k.d4).smul 2)).smul 3)
 have n2 : Dn (D * D) (2 * (u1 * u2 - 3 * (v1 * v2))) := ((k.d1.mul k.d2).sub ((k.d3.mul k.d4).smul 3)).smul 2
 obtain ⟨e1, e2⟩ := A.one h4 q1 q2 n1 n2 (Nat.mul_pos hD hD) hN
 exact A1 (n := 3) sq3 sq6 (by have : ((3 : Nat) : Rat) = 3 := rfl; grind) (by have : ((3 : Nat) : Rat) = 3 := rfl; grind)
theorem Ap.kvB (A : Ap N a b c d) {u1 u2 v1 v2 : Rat} (k : Co M D u1 u2 v1 v2) : Bd (9 * M) (kv a b u1 u2 v1 v2) :=
 ((k.b1.add (k.b2.mul A.ba)).add ((k.b3.add (k.b4.mul A.ba)).mul A.bb)).le (by omega)
/-- the coordinates of a product -/
def mu1 (u1 u2 v1 v2 w1 w2 t1 t2 : Rat) : Rat := u1 * w1 + 2 * (u2 * w2) + 3 * (v1 * t1 + 2 * (v2 * t2))
def mu2 (u1 u2 v1 v2 w1 w2 t1 t2 : Rat) : Rat := u1 * w2 + u2 * w1 + 3 * (v1 * t2 + v2 * t1)
def mu3 (u1 u2 v1 v2 w1 w2 t1 t2 : Rat) : Rat := u1 * t1 + 2 * (u2 * t2) + (v1 * w1 + 2 * (v2 * w2))
def mu4 (u1 u2 v1 v2 w1 w2 t1 t2 : Rat) : Rat := u1 * t2 + u2 * t1 + (v1 * w2 + v2 * w1)
theorem Ap.kvM (A : Ap N a b c d) {u1 u2 v1 v2 w1 w2 t1 t2 : Rat} (k : Co M D u1 u2 v1 v2) (l : Co M D w1 w2 t1 t2) :
  Sm N (68 * (M * M)) (kv a b u1 u2 v1 v2 * kv a b w1 w2 t1 t2 - kv a b (mu1 u1 u2 v1 v2 w1 w2 t1 t2) (mu2 u1 u2 v1 v2 w1 w2 t1 t2) (mu3 u1 u2 v1 v2 w1 w2 t1 t2) (mu4 u1 u2 v1 v2 w1 w2 t1 t2)) := by
 have h2 := A.sb.mul ((k.b3.add (k.b4.mul A.ba)).mul (l.b3.add (l.b4.mul A.ba)))
 have h3 := A.sa.mul (((k.b2.mul l.b2).add ((k.b4.mul l.b4).smul 3)).add (((k.b2.mul l.b4).add (k.b4.mul l.b2)).mul A.bb))
 refine ((h2.add h3).congr (y := _) (by unfold kv mu1 mu2 mu3 mu4; have : ((3 : Nat) : Rat) = 3 := rfl; rw [this]; grind)).le ?_
 have e : (M + M * 2) * (M + M * 2) = 9 * (M * M) := by grind
 rw [e]; generalize M * M = q; omega
theorem Co.mul {u1 u2 v1 v2 w1 w2 t1 t2 : Rat} (k : Co M D u1 u2 v1 v2) (l : Co M D w1 w2 t1 t2) : Co (12 * (M * M)) (D * D) (mu1 u1 u2 v1 v2 w1 w2 t1 t2) (mu2 u1 u2 v1 v2 w1 w2 t1 t2) (mu3 u1 u2 v1 v2 w1 w2 t1 t2) (mu4 u1 u2 v1 v2 w1 w2 t1 t2) where
 b1 := (((k.b1.mul l.b1).add ((k.b2.mul l.b2).smul 2)).add (((k.b3.mul l.b3).add ((k.b4.mul l.b4).smul 2)).smul 3)).le (by generalize M * M = q; omega)
 b2 := (((k.b1.mul l.b2).add (k.b2.mul l.b1)).add (((k.b3.mul l.b4).add (k.b4.mul l.b3)).smul 3)).le (by generalize M * M = q; omega)
 b3 := (((k.b1.mul l.b3).add ((k.b2.mul l.b4).smul 2)).add ((k.b3.mul l.b1).add ((k.b4.mul l.b2).smul 2))).le (by generalize M * M = q; omega)
 b4 := (((k.b1.mul l.b4).add (k.b2.mul l.b3)).add ((k.b3.mul l.b2).add (k.b4.mul l.b1))).le (by generalize M * M = q; omega)
 d1 := ((k.d1.mul l.d1).add ((k.d2.mul l.d2).smul 2)).add (((k.d3.mul l.d3).add ((k.d4.mul l.d4).smul 2)).smul 3)
 d2 := ((k.d1.mul l.d2).add (k.d2.mul l.d1)).add (((k.d3.mul l.d4).add (k.d4.mul l.d3)).smul 3)
 d3 := ((k.d1.mul l.d3).add ((k.d2.mul l.d4).smul 2)).add ((k.d3.mul l.d1).add ((k.d4.mul l.d2).smul 2))
 d4 := ((k.d1.mul l.d4).add (k.d2.mul l.d3)).add ((k.d3.mul l.d2).add (k.d4.mul l.d1))
theorem Co.add {P Q : Nat} {u1 u2 v1 v2 w1 w2 t1 t2 : Rat} (k : Co P D u1 u2 v1 v2) (l : Co Q D w1 w2 t1 t2) : Co (P + Q) D (u1 + w1) (u2 + w2) (v1 + t1) (v2 + t2) :=
 ⟨k.b1.add l.b1, k.b2.add l.b2, k.b3.add l.b3, k.b4.add l.b4, k.d1.add l.d1, k.d2.add l.d2, k.d3.add l.d3, k.d4.add l.d4⟩
theorem Co.sub {P Q : Nat} {u1 u2 v1 v2 w1 w2 t1 t2 : Rat} (k : Co P D u1 u2 v1 v2) (l : Co Q D w1 w2 t1 t2) : Co (P + Q) D (u1 - w1) (u2 - w2) (v1 - t1) (v2 - t2) :=
 ⟨k.b1.sub l.b1, k.b2.sub l.b2, k.b3.sub l.b3, k.b4.sub l.b4, k.d1.sub l.d1, k.d2.sub l.d2, k.d3.sub l.d3, k.d4.sub l.d4⟩
theorem Co.smul (n : Nat) {u1 u2 v1 v2 : Rat} (k : Co M D u1 u2 v1 v2) : Co (n * M) D (n * u1) (n * u2) (n * v1) (n * v2) :=
 ⟨k.b1.smul n, k.b2.smul n, k.b3.smul n, k.b4.smul n, k.d1.smul n, k.d2.smul n, k.d3.smul n, k.d4.smul n⟩
theorem Co.le {P Q : Nat} {u1 u2 v1 v2 : Rat} (k : Co P D u1 u2 v1 v2) (h : P ≤ Q) : Co Q D u1 u2 v1 v2 := ⟨k.b1.le h, k.b2.le h, k.b3.le h, k.b4.le h, k.d1, k.d2, k.d3, k.d4⟩
def c3 (C M : Nat) : Nat := C * (36 * M) + 2000 * (M * M)
def m3 (M : Nat) : Nat := 72 * (M * M)
theorem Ap.three (A : Ap N a b c d) {u1 u2 v1 v2 w1 w2 t1 t2 : Rat} (h : Sm N C (kv a b u1 u2 v1 v2 + kv a b w1 w2 t1 t2 * c)) (k : Co M D u1 u2 v1 v2) (l : Co M D w1 w2 t1 t2) (hD : 0 < D)
  (hN : o1 (c2 (c3 C M) (m3 M)) (m2 (m3 M)) * ((D * D) * (D * D) * ((D * D) * (D * D))) < N) :
  (u1 = 0 ∧ u2 = 0 ∧ v1 = 0 ∧ v2 = 0) ∧ w1 = 0 ∧ w2 = 0 ∧ t1 = 0 ∧ t2 = 0 := by
 have bX := A.kvB k
 have bY := A.kvB l
 have h1 := h.mul (bX.sub (bY.mul A.bc))
 have h2 := A.sc.mul (bY.mul bY)
 have h3 := A.kvM k k
 have h4 := (A.kvM l l).mul (Bd.nat 5)
 have h5 : Sm N (c3 C M) (kv a b (mu1 u1 u2 v1 v2 u1 u2 v1 v2 - (5 : Nat) * mu1 w1 w2 t1 t2 w1 w2 t1 t2) (mu2 u1 u2 v1 v2 u1 u2 v1 v2 - (5 : Nat) * mu2 w1 w2 t1 t2 w1 w2 t1 t2) (mu3 u1 u2 v1 v2 u1 u2 v1 v2 - (5 : Nat) * mu3 w1 w2 t1 t2 w1 w2 t1 t2) (mu4 u1 u2 v1 v2 u1 u2 v1 v2 - (5 : Nat) * mu4 w1 w2 t1 t2 w1 w2 t1 t2)) := by
  refine ((((h1.add h2).sub h3).add h4).congr (y := _) ?_).le ?_
  ·have : ((5 : Nat) : Rat) = 5 := rfl
   rw [this]
   simp only [kv, mu1, mu2, mu3, mu4]
   grind
  ·have e1 : (9 * M) * (9 * M) = 81 * (M * M) := by grind
   have e2 : 9 * M + 9 * M * 3 = 36 * M := by omega
   unfold c3
   rw [e1, e2]; generalize M * M = q; generalize C * (36 * M) = r; omega
 have hk : Co (m3 M) (D * D) _ _ _ _ := ((k.mul k).sub ((l.mul l).smul 5)).le (by unfold m3; generalize M * M = q; omega)
 obtain ⟨⟨e1, e2⟩, e3, e4⟩ := A.two h5 hk (Nat.mul_pos hD hD) hN
 have f5 : ((5 : Nat) : Rat) = 5 := rfl
 rw [f5] at e1 e2 e3 e4
 simp only [mu1, mu2, mu3, mu4] at e1 e2 e3 e4
 clear h h1 h2 h3 h4 h5 hk bX bY
 exact A2 (n := 5) sq5 sq10 sq15 sq30 (by grind) (by grind) (by grind) (by grind)
def c4 (C M : Nat) : Nat := C * (68 * M) + 3000 * (M * M)
def m4 (M : Nat) : Nat := 1100 * (M * M)
theorem Ap.four (A : Ap N a b c d) {u1 u2 v1 v2 w1 w2 t1 t2 z : Rat} (h : Sm N C (kv a b u1 u2 v1 v2 + kv a b w1 w2 t1 t2 * c + z * d)) (k : Co M D u1 u2 v1 v2) (l : Co M D w1 w2 t1 t2) (bz : Bd M z) (dz : Dn D z) (hD : 0 < D)
  (hN : o1 (c2 (c3 (c4 C M) (m4 M)) (m3 (m4 M))) (m2 (m3 (m4 M))) * (((D * D) * (D * D)) * ((D * D) * (D * D)) * (((D * D) * (D * D)) * ((D * D) * (D * D)))) < N)
  (hN2 : o1 (c2 (c3 C M) (m3 M)) (m2 (m3 M)) * ((D * D) * (D * D) * ((D * D) * (D * D))) < N) :
  (u1 = 0 ∧ u2 = 0 ∧ v1 = 0 ∧ v2 = 0) ∧ (w1 = 0 ∧ w2 = 0 ∧ t1 = 0 ∧ t2 = 0) ∧ z = 0 := by
 have hz : z = 0 := by
  have bX := A.kvB k
  have bY := A.kvB l
  have h1 := h.mul ((bX.add (bY.mul A.bc)).sub (bz.mul A.bd))
  have h2 := A.sd.mul (bz.mul bz)
  have h3 := A.kvM k k
  have h4 := (A.kvM l l).mul (Bd.nat 5)
  have h5 := A.sc.mul (bY.mul bY)
  have h6 := (A.kvM k l).mul ((Bd.nat 2).mul A.bc)
  have f5 : ((5 : Nat) : Rat) = 5 := rfl
  have f2 : ((2 : Nat) : Rat) = 2 := rfl
  have f9 : ((1009 : Nat) : Rat) = 1009 := rfl
  have h7 : Sm N (c4 C M) (kv a b (mu1 u1 u2 v1 v2 u1 u2 v1 v2 + (5 : Nat) * mu1 w1 w2 t1 t2 w1 w2 t1 t2 - (1009 : Nat) * (z * z)) (mu2 u1 u2 v1 v2 u1 u2 v1 v2 + (5 : Nat) * mu2 w1 w2 t1 t2 w1 w2 t1 t2 - (1009 : Nat) * (0 * z)) (mu3 u1 u2 v1 v2 u1 u2 v1 v2 + (5 : Nat) * mu3 w1 w2 t1 t2 w1 w2 t1 t2 - (1009 : Nat) * (0 * z)) (mu4 u1 u2 v1 v2 u1 u2 v1 v2 + (5 : Nat) * mu4 w1 w2 t1 t2 w1 w2 t1 t2 - (1009 : Nat) * (0 * z)) +
    kv a b ((2 : Nat) * mu1 u1 u2 v1 v2 w1 w2 t1 t2) ((2 : Nat) * mu2 u1 u2 v1 v2 w1 w2 t1 t2) ((2 : Nat) * mu3 u1 u2 v1 v2 w1 w2 t1 t2) ((2 : Nat) * mu4 u1 u2 v1 v2 w1 w2 t1 t2) * c) := by
   refine ((((((h1.add h2).sub h3).sub h4).sub h5).sub h6).congr (y := _) ?_).le ?_
   ·rw [f5, f2, f9]
    simp only [kv, mu1, mu2, mu3, mu4]
    grind
   ·have e1 : (9 * M) * (9 * M) = 81 * (M * M) := by grind
    have e2 : 9 * M + 9 * M * 3 + M * 32 = 68 * M := by omega
    unfold c4
    rw [e1, e2]; generalize M * M = q; generalize C * (68 * M) = r; omega
  have zz : Co (1009 * (M * M)) (D * D) ((1009 : Nat) * (z * z)) ((1009 : Nat) * (0 * z)) ((1009 : Nat) * (0 * z)) ((1009 : Nat) * (0 * z)) := by
   have b0 : Bd M 0 := ⟨nat_nonneg M, by have := nat_nonneg M; grind⟩
   have d0 : Dn D 0 := ⟨0, by rw [Rat.zero_mul]; rfl⟩
   exact Co.smul 1009 ⟨bz.mul bz, b0.mul bz, b0.mul bz, b0.mul bz, dz.mul dz, d0.mul dz, d0.mul dz, d0.mul dz⟩
  have hk : Co (m4 M) (D * D) _ _ _ _ := (((k.mul k).add ((l.mul l).smul 5)).sub zz).le (by unfold m4; generalize M * M = q; omega)
  have hl : Co (m4 M) (D * D) _ _ _ _ := ((k.mul l).smul 2).le (by unfold m4; generalize M * M = q; omega)
  obtain ⟨⟨e1, e2, e3, e4⟩, e5, e6, e7, e8⟩ := A.three h7 hk hl (Nat.mul_pos hD hD) hN
  rw [f5, f9] at e1 e2 e3 e4
  rw [f2] at e5 e6 e7 e8
  simp only [mu1, mu2, mu3, mu4] at e1 e2 e3 e4 e5 e6 e7 e8
  clear h h1 h2 h3 h4 h5 h6 h7 hk hl zz bX bY
  rcases ND2 (u1 := u1) (u2 := u2) (v1 := v1) (v2 := v2) (w1 := w1) (w2 := w2) (t1 := t1) (t2 := t2) (by grind) (by grind) (by grind) (by grind) with ⟨rfl, rfl, rfl, rfl⟩ | ⟨rfl, rfl, rfl, rfl⟩
  ·have f : ((5045 : Nat) : Rat) = 5045 := rfl
   exact (A2 (n := 5045) sq5045 sq10090 sq15135 sq30270 (u1 := 5 * w1) (u2 := 5 * w2) (v1 := 5 * t1) (v2 := 5 * t2) (w1 := z) (w2 := 0) (t1 := 0) (t2 := 0) (by grind) (by grind) (by grind) (by grind)).2.1
  ·have f : ((1009 : Nat) : Rat) = 1009 := rfl
   exact (A2 (n := 1009) sq1009 sq2018 sq3027 sq6054 (u1 := u1) (u2 := u2) (v1 := v1) (v2 := v2) (w1 := z) (w2 := 0) (t1 := 0) (t2 := 0) (by grind) (by grind) (by grind) (by grind)).2.1
 subst hz
 have h2 : Sm N C (kv a b u1 u2 v1 v2 + kv a b w1 w2 t1 t2 * c) := h.congr (by grind)
 obtain ⟨f1, f2⟩ := A.three h2 k l hD hN2
 exact ⟨f1, f2, rfl⟩
end Go.Ar.At

/-
 SURD: whole roots as approximations; a list of terms is not small. Own work.
-/
namespace Go.Ar.At
open Go.Ar Go.Proofs

/-- the root of r at the scale N -/
def qr (N r : Nat) : Rat := (nrt (r * (N * N)) : Rat) / N
/-- the root of a base as a product -/
def mono (N : Nat) : Nat → Rat
 | 2 => qr N 2
 | 3 => qr N 3
 | 6 => qr N 2 * qr N 3
 | 10 => qr N 2 * qr N 5
 | 30 => qr N 2 * qr N 3 * qr N 5
 | 1009 => qr N 1009
 | _ => 1
/-- a sum of terms at a scale, and by its classes -/
def sumQ (N : Nat) : List Tm → Rat
 | [] => 0
 | x :: l => x.1 * qr N x.2 + sumQ N l
def cmb (N : Nat) (c1 c2 c3 c6 c10 c30 c9 : Rat) : Rat := kv (qr N 2) (qr N 3) c1 c2 c3 c6 + kv (qr N 2) (qr N 3) 0 c10 0 c30 * qr N 5 + c9 * qr N 1009
def cmbL (N : Nat) (l : List Tm) : Rat := cmb N (vlB 1 l) (vlB 2 l) (vlB 3 l) (vlB 6 l) (vlB 10 l) (vlB 30 l) (vlB 1009 l)
end Go.Ar.At

/-
 SURD: enclosures of a sum of roots: those of the program and those of the reference meet. Own work.
-/
namespace Go.Ar.At
open Go.Ar Go.Proofs

theorem sq_le {p q : Rat} (hq : 0 ≤ q) (h : p * p ≤ q * q) : p ≤ q := Rat.not_lt.1 fun h2 => by
 have h3 := Rat.mul_pos (show 0 < p - q by grind) (show 0 < p + q by grind)
 grind
/-- bounds of one term -/
def TEnc (x : Tm) (t u : Rat) : Prop := ∃ p q : Rat, 0 ≤ p ∧ 0 ≤ q ∧ p * p ≤ (x.2 : Rat) ∧ (x.2 : Rat) ≤ q * q ∧ ((0 ≤ x.1 ∧ t = x.1 * p ∧ u = x.1 * q) ∨ (x.1 < 0 ∧ t = x.1 * q ∧ u = x.1 * p))
theorem TEnc.cross {x : Tm} {t u t' u' : Rat} (h : TEnc x t u) (h' : TEnc x t' u') : t ≤ u' := by
 obtain ⟨p, q, hp, hq, h1, h2, h3⟩ := h
 obtain ⟨p', q', hp', hq', h1', h2', h3'⟩ := h'
 have a1 := sq_le hq' (show p * p ≤ q' * q' by grind)
 have a2 := sq_le hq (show p' * p' ≤ q * q by grind)
 rcases h3 with ⟨s, rfl, rfl⟩ | ⟨s, rfl, rfl⟩
 ·rcases h3' with ⟨s', rfl, rfl⟩ | ⟨s', rfl, rfl⟩
  ·have := Rat.mul_nonneg s (show 0 ≤ q' - p by grind); grind
  ·grind
 ·rcases h3' with ⟨s', rfl, rfl⟩ | ⟨s', rfl, rfl⟩
  ·grind
  ·have := Rat.mul_nonneg (show 0 ≤ -x.1 by grind) (show 0 ≤ q - p' by grind); grind
/-- bounds of a sum -/
def Enc : List Tm → Rat → Rat → Prop
 | [], lo, hi => lo = 0 ∧ hi = 0
 | x :: l, lo, hi => ∃ t u lo' hi', TEnc x t u ∧ Enc l lo' hi' ∧ lo = t + lo' ∧ hi = u + hi'
theorem Enc.cross : ∀ {l : List Tm} {a b c d : Rat}, Enc l a b → Enc l c d → a ≤ d
 | [], a, b, c, d, h, h' => by rw [h.1, h'.2]; exact Rat.le_refl
 | x :: l, a, b, c, d, ⟨t, u, lo, hi, h1, h2, e1, _⟩, ⟨t', u', lo', hi', h1', h2', _, e2'⟩ => by
   have := h1.cross h1'
   have := Enc.cross h2 h2'
   rw [e1, e2']; grind

end Go.Ar.At

/-
 SURD: the sign of a sum of two roots. Own work.
-/
namespace Go.Ar.At
open Go.Ar Go.Proofs

def ngT (x : Tm) : Tm := (-x.1, x.2)
theorem TEnc.neg {x : Tm} {t u : Rat} (h0 : x.1 ≠ 0) (h : TEnc x t u) : TEnc (ngT x) (-u) (-t) := by
 obtain ⟨p, q, hp, hq, h1, h2, h3⟩ := h
 refine ⟨p, q, hp, hq, h1, h2, ?_⟩
 show (0 ≤ -x.1 ∧ _ = -x.1 * p ∧ _ = -x.1 * q) ∨ (-x.1 < 0 ∧ _ = -x.1 * q ∧ _ = -x.1 * p)
 rcases h3 with ⟨s, rfl, rfl⟩ | ⟨s, rfl, rfl⟩
 ·exact .inr ⟨by grind, by grind, by grind⟩
 ·exact .inl ⟨by grind, by grind, by grind⟩
theorem Enc.neg : ∀ {l : List Tm} {lo hi : Rat}, (∀ x ∈ l, x.1 ≠ 0) → Enc l lo hi → Enc (l.map ngT) (-hi) (-lo)
 | [], lo, hi, _, h => ⟨by rw [h.2]; rfl, by rw [h.1]; rfl⟩
 | x :: l, lo, hi, h0, ⟨t, u, lo', hi', h1, h2, e1, e2⟩ =>
   ⟨-u, -t, -hi', -lo', h1.neg (h0 x (List.mem_cons_self ..)), Enc.neg (fun y hy => h0 y (List.mem_cons_of_mem _ hy)) h2, by rw [e2]; grind, by rw [e1]; grind⟩
theorem Enc.swap {x y : Tm} {lo hi : Rat} (h : Enc [x, y] lo hi) : Enc [y, x] lo hi := by
 obtain ⟨t, u, a, b, h1, ⟨t', u', a', b', h1', ⟨e5, e6⟩, e3, e4⟩, e1, e2⟩ := h
 exact ⟨t', u', t, u, h1', ⟨t, u, 0, 0, h1, ⟨rfl, rfl⟩, by grind, by grind⟩, by grind, by grind⟩
theorem Enc.two {x y : Tm} {lo hi : Rat} (hx : 0 < x.1) (hy : y.1 < 0) (h : Enc [x, y] lo hi) : ∃ p1 q1 p2 q2 : Rat, 0 ≤ p1 ∧ 0 ≤ q1 ∧ 0 ≤ p2 ∧ 0 ≤ q2 ∧ p1 * p1 ≤ (x.2 : Rat) ∧ (x.2 : Rat) ≤ q1 * q1 ∧ p2 * p2 ≤ (y.2 : Rat) ∧ (y.2 : Rat) ≤ q2 * q2 ∧ lo = x.1 * p1 + y.1 * q2 ∧ hi = x.1 * q1 + y.1 * p2 := by
 obtain ⟨t, u, a, b, ⟨p1, q1, c1, c2, c3, c4, c5⟩, ⟨t', u', a', b', ⟨p2, q2, d1, d2, d3, d4, d5⟩, ⟨e5, e6⟩, e3, e4⟩, e1, e2⟩ := h
 refine ⟨p1, q1, p2, q2, c1, c2, d1, d2, c3, c4, d3, d4, ?_, ?_⟩
 ·rcases c5 with c5 | c5
  ·rcases d5 with d5 | d5
   ·exact absurd d5.1 (by grind)
   ·grind
  ·exact absurd c5.1 (by grind)
 ·rcases c5 with c5 | c5
  ·rcases d5 with d5 | d5
   ·exact absurd d5.1 (by grind)
   ·grind
  ·exact absurd c5.1 (by grind)
end Go.Ar.At

/-
 SURD: two small lemmas. Own work.
-/
namespace Go.Ar.At
open Go.Ar Go.Proofs
theorem nat1 {n : Nat} (h : 0 < n) : (0 : Rat) < (n : Rat) := Rat.natCast_pos.2 h
end Go.Ar.At
namespace Go.Proofs
open Go Go.Pi Go.RowKit Go.Ar
end Go.Proofs

/-
 SURD: differences of one term and one term, and their signs. Own work.
-/
namespace Go.Ar.At
open Go.Ar Go.Proofs
/-- what shows the sign of a list: r never contradicted, and shown at 1024 bits -/
def Shown (l : List Tm) (r : Int) : Prop := ∀ lo hi : Rat, Enc l lo hi → (r = 1 → ¬hi < 0) ∧ (r = -1 → ¬0 < lo) ∧ ((hi - lo) * ((2 ^ 1024 : Nat) : Rat) ≤ ((10 ^ 100 : Nat) : Rat) → (r = 1 → 0 < lo) ∧ (r = -1 → hi < 0))
theorem Shown.neg {l : List Tm} {r : Int} (h0 : ∀ x ∈ l, x.1 ≠ 0) (h : Shown (l.map ngT) r) : Shown l (-r) := by
 intro lo hi he
 obtain ⟨h1, h2, h3⟩ := h _ _ (he.neg h0)
 refine ⟨fun hr hh => h2 (by omega) (by grind), fun hr hh => h1 (by omega) (by grind), fun hw => ?_⟩
 obtain ⟨h4, h5⟩ := h3 (by grind)
 exact ⟨fun hr => by have := h5 (by omega); grind, fun hr => by have := h4 (by omega); grind⟩
theorem Shown.swap {x y : Tm} {r : Int} (h : Shown [x, y] r) : Shown [y, x] r := fun lo hi he => h lo hi he.swap
end Go.Ar.At
namespace Go.Proofs
open Go Go.Pi Go.RowKit Go.Ar
end Go.Proofs

/-
 SURD: Sum, difference, Add, Sub, Compare, Equal, the reference's Sign as contracts, for the law's surds. Own work.
-/
namespace Go.Proofs
open Go Go.Pi Go.RowKit Go.Ar

theorem mulT_one (a : List Tm) : mulT 1 a = a := by
 unfold mulT
 have : (fun x : Tm => (x.1 * 1, x.2)) = id := funext fun x => by rw [Rat.mul_one]; rfl
 rw [this, List.map_id]
/-- a term's value in twelfths -/
def tv (B : Nat) (x : Tm) : Prop := x.2 ∈ R10 ∧ ∃ M : Int, M.natAbs ≤ B ∧ x.1 * ((bs x.2).2 : Rat) * 12 = (M : Rat)
theorem Mk.tv {t : Nat} {a : List Tm} (h : Mk t a) : ∀ x ∈ a, tv (2400 * t) x := by
 intro x hx
 obtain ⟨M, h1, h2⟩ := h.val (bs x.2).1
 exact ⟨h.can.rad x hx, M, h1, by rw [h.can.val hx]; exact h2⟩
theorem Tryz.sfOne (i : Int) : Con Tryz.prog Tryz.L 131 [.int .i64 i] (.str (rt 1)) := by
 rw [one_txt]
 refine rule131 Tryz.hL rfl rfl rfl ?_
 (simp only [pc131, rs131, oU, oC]; refine ev ?_; try exact ⟨⟩)
def kD (i : Nat) : Rat := if i = 0 then 1 else -1
theorem rt_neg1 : rt (-1) = [45, 49] := by
 refine (rt_z (-1)).trans ?_
 rw [tz_nat, if_pos (by decide), show (-1 : Int).natAbs = 1 from rfl, show dd 1 = [49] from dd_small (by decide)]
theorem Tryz.sfSign (i : Nat) (hi : i < 2) : Con Tryz.prog Tryz.L 134 [.int .i64 i] (.str (rt (kD i))) := by
 have e : rt (kD i) = if i = 0 then [49] else [45, 49] := by
  unfold kD
  split
  ·exact one_txt
  ·exact rt_neg1
 rw [e]
 refine rule134 Tryz.hL rfl rfl rfl ?_
 (simp only [pc134, rs134, oU, oC]; refine ev ?_; try exact ⟨⟩)
 rcases show i = 0 ∨ i = 1 by omega with rfl | rfl
 ·refine ⟨⟨by decide, by decide, by decide⟩, ?_⟩
  (try simp only [List.drop]; refine ev ?_; try exact ⟨⟩)
 ·refine ⟨⟨by decide, by decide, by decide⟩, ?_⟩
  (try simp only [List.drop]; refine ev ?_; try exact ⟨⟩)

theorem ldC_sgs {ls : List (List Tm)} {i t : Nat} {s : List Tm} (h : ls[i]? = some s) {N : EP} {E : Env} : ldC false 1 (List.take 1 (List.drop i (ls.map sg))) t N E = N (st1 E t (sg s)) := by
 have e : List.drop i (ls.map sg) = sg s :: List.drop (i + 1) (ls.map sg) := dropc (by rw [List.getElem?_map, h]; rfl)
 rw [e]; simp [ldC, ofCells, D.one]
theorem Tryz.scheckAll (ls : List (List Tm)) (hl : ls.length ≤ 1000) (h : ∀ s ∈ ls, SOk s) : Con Tryz.prog Tryz.L 81 [.sl ls.length (ls.map sg)] (.int .i64 0) := by
 refine rule81 Tryz.hL rfl rfl rfl ?_
 (simp only [pc81, rs81, oU, oC]; refine ev ?_; try exact ⟨⟩)
 refine loopF_of (fun E => ∃ k : Nat, k ≤ ls.length ∧ E = [(6, .sl ls.length (ls.map sg)), (7, .int .i64 ls.length), (8, .int .i64 k)])
  (fun E => match lk E 8 with | .int _ i => ls.length - i.toNat | _ => 0) ⟨0, Nat.zero_le _, rfl⟩ ?_
 rintro _ ⟨k, hk, rfl⟩
 (refine ev ?_; try exact ⟨⟩)
 intro h3
 have hx : ls[k]? = some (ls[k]'(by omega)) := List.getElem?_eq_getElem (by omega)
 generalize ls[k]'(by omega) = s at hx
 refine ⟨⟨by omega, by omega, by rw [List.length_map]; omega⟩, ?_⟩
 rw [ldC_sgs hx]
 (refine ev ?_; try exact ⟨⟩)
 refine callF_of (Tryz.check s (h s (List.mem_of_getElem? hx))) ?_
 (refine ev ?_; try exact ⟨⟩)
 exact ⟨by omega, ⟨k + 1, by omega, by simp⟩, by omega⟩
/-- a surd of the law, as an argument -/
structure Sd (t : Nat) (a : List Tm) : Prop where
 wf : Mk t a
 le : t ≤ 18
theorem Sd.ok {t : Nat} {a : List Tm} (h : Sd t a) : SOk a := h.wf.ok (by have := h.le; omega)
theorem Sd.tv {t : Nat} {a : List Tm} (h : Sd t a) : ∀ x ∈ a, tv 43200 x := fun x hx => by
 obtain ⟨h0, M, h1, h2⟩ := h.wf.tv x hx
 exact ⟨h0, M, by have := h.le; have := Nat.mul_le_mul_left 2400 this; omega, h2⟩
end Go.Proofs

/-
 SURD: Add, Sub for the law's surds. Own work.
-/
namespace Go.Proofs
open Go Go.Pi Go.RowKit Go.Ar

theorem inR_app {a b : List Tm} (ha : inR a) (hb : inR b) : inR (a ++ b) := fun x hx => (List.mem_append.1 hx).elim (ha x) (hb x)
theorem Mk.join {s t : Nat} {a b : List Tm} (ha : Mk s a) (hb : Mk t b) : Mk (s + t) (joinL (a ++ b)) := by
 obtain ⟨c, hv⟩ := joinL_can (inR_app ha.can.rad hb.can.rad)
 refine ⟨c, ?_, fun q => ?_⟩
 ·have := joinL_len (a ++ b); have := ha.len; have := hb.len
  rw [List.length_append] at *; omega
 ·obtain ⟨M, h1, h2⟩ := ha.val q
  obtain ⟨N, h3, h4⟩ := hb.val q
  refine ⟨M + N, by omega, ?_⟩
  rw [hv, vlB_app, Rat.intCast_add, ← h2, ← h4]; grind
theorem Mk.le {s t : Nat} {a : List Tm} (h : Mk s a) (hst : s ≤ t) : Mk t a := ⟨h.can, Nat.le_trans h.len hst, fun b => by obtain ⟨M, h1, h2⟩ := h.val b; exact ⟨M, by have := Nat.mul_le_mul_left 2400 hst; omega, h2⟩⟩
theorem Sd.up {s : Nat} {a : List Tm} (h : Sd s a) : Sd 18 a := ⟨h.wf.le h.le, Nat.le_refl _⟩
end Go.Proofs

/-
 SURD: differences of at most one term and at most one term. Own work.
-/
namespace Go.Proofs
open Go Go.Pi Go.RowKit Go.Ar

/-- a term that is a surd of its own -/
def aOk (a : List Tm) : Prop := a.length ≤ 1 ∧ ∀ x ∈ a, tOk x
theorem aOk.ok {a : List Tm} (h : aOk a) : SOk a := ⟨by have := h.1; omega, h.2, fun i j x y hij hx hy => by
 have := (List.getElem?_eq_some_iff.1 hy).1
 have := h.1
 omega⟩
theorem aOk.bd {a : List Tm} (h : aOk a) : ∀ x ∈ a, rd x.1 ≤ 200 ∧ 0 < x.2 ∧ dl (x.2 : Int) ≤ 200 := fun x hx => ⟨(h.2 x hx).2.1, (h.2 x hx).2.2.1, (h.2 x hx).2.2.2.1⟩
def difF (a b : List Tm) : List Tm := ((a ++ mulT (-1) b).foldl addL []).filter fun x => !decide (x.1 = 0)
end Go.Proofs

/-
 SURD: roots of small numbers: pure part of SurdSquares. Own work.
-/
namespace Go.Ar.At
open Go.Ar Go.Proofs

/-- a rational number whose square is whole -/
theorem rat_sq {r : Rat} {m : Nat} (h0 : 0 ≤ r) (h : r * r = (m : Rat)) : isq m ∧ ((nrt m : Nat) : Rat) = r := by
 have hn := num_eq r
 have hd := r.den_pos
 have hdp := nat_ne hd
 -- num * num = m * (den * den)
 have e : r.num * r.num = (m : Int) * ((r.den : Int) * (r.den : Int)) := by
  have : ((r.num * r.num : Int) : Rat) = (((m : Int) * ((r.den : Int) * (r.den : Int)) : Int) : Rat) := by
   rw [Rat.intCast_mul, Rat.intCast_mul, Rat.intCast_mul, hn]
   show _ = (m : Rat) * ((r.den : Rat) * (r.den : Rat))
   rw [← h]; grind
  exact Rat.intCast_inj.1 this
 have e2 : r.num.natAbs * r.num.natAbs = m * (r.den * r.den) := by
  have := congrArg Int.natAbs e
  rw [Int.natAbs_mul, Int.natAbs_mul, Int.natAbs_mul, Int.natAbs_natCast, Int.natAbs_natCast] at this
  exact this
 have hco := r.reduced
 have h1 : r.den ∣ r.num.natAbs * r.num.natAbs := ⟨m * r.den, by rw [e2]; grind⟩
 have h2 : r.den ∣ r.num.natAbs := (Nat.Coprime.symm hco).dvd_of_dvd_mul_left h1
 have h3 : r.den = 1 := by
  have := Nat.Coprime.eq_one_of_dvd (Nat.Coprime.symm hco) h2
  exact this
 rw [h3] at e2 hn
 have e3 : r.num.natAbs * r.num.natAbs = m := by rw [e2]; omega
 have hr : r = ((r.num.natAbs : Nat) : Rat) := by
  have hp : 0 ≤ r.num := by
   rcases Int.lt_or_le r.num 0 with h' | h'
   ·exact absurd h0 (Rat.not_le.2 ((sign_num r).1.1 h'))
   ·exact h'
  have : (r.num.natAbs : Int) = r.num := by omega
  have h4 : ((r.num.natAbs : Int) : Rat) = (r.num : Rat) := by rw [this]
  have o : ((1 : Nat) : Rat) = 1 := rfl
  rw [o, Rat.mul_one] at hn
  rw [← hn, ← h4]; rfl
 refine ⟨by rw [← e3]; exact isq_sq _, ?_⟩
 rw [← e3, nrt_sq]; exact hr.symm
end Go.Ar.At
namespace Go.Proofs
open Go Go.Pi Go.RowKit Go.Ar

end Go.Proofs

/-
 SURD: sums of roots of any radicands: the sum does not depend on the order. Own work.
-/
namespace Go.Proofs
open Go Go.Pi Go.RowKit Go.Ar

/-- the root of a product of alike radicands -/
theorem kk {a b : Nat} (h : isq (a * b)) : ((nrt (a * b) : Nat) : Rat) * ((nrt (a * b) : Nat) : Rat) = (a : Rat) * b := by
 rw [← cast_mul, ← cast_mul]; congr 1
theorem isq_comm {a b : Nat} : isq (a * b) ↔ isq (b * a) := by rw [Nat.mul_comm]
theorem isq_trans {a b c : Nat} (hb : 0 < b) (h1 : isq (a * b)) (h2 : isq (b * c)) : isq (a * c) ∧ ((nrt (a * b) : Nat) : Rat) * ((nrt (b * c) : Nat) : Rat) = (b : Rat) * ((nrt (a * c) : Nat) : Rat) := by
 have k1 := kk h1
 have k2 := kk h2
 have hbp := nat_ne hb
 have hb0 := At.nat1 hb
 have n1 := nat_nonneg (nrt (a * b))
 have n2 := nat_nonneg (nrt (b * c))
 have hr0 : 0 ≤ ((nrt (a * b) : Nat) : Rat) * ((nrt (b * c) : Nat) : Rat) / (b : Rat) := by
  have e : ((nrt (a * b) : Nat) : Rat) * ((nrt (b * c) : Nat) : Rat) / (b : Rat) * b = ((nrt (a * b) : Nat) : Rat) * ((nrt (b * c) : Nat) : Rat) := by grind
  have p := Rat.mul_nonneg n1 n2
  refine Rat.not_lt.1 fun h => ?_
  have := Rat.mul_pos (show 0 < -(((nrt (a * b) : Nat) : Rat) * ((nrt (b * c) : Nat) : Rat) / (b : Rat)) by grind) hb0
  grind
 obtain ⟨i1, i2⟩ := At.rat_sq (r := ((nrt (a * b) : Nat) : Rat) * ((nrt (b * c) : Nat) : Rat) / (b : Rat)) (m := a * c) hr0 (by
  rw [cast_mul]
  generalize ((nrt (a * b) : Nat) : Rat) = x at *
  generalize ((nrt (b * c) : Nat) : Rat) = y at *
  generalize (a : Rat) = a at *
  generalize (b : Rat) = b at *
  generalize (c : Rat) = c at *
  have : x * y / b * (x * y / b) = (x * x) * (y * y) / b / b := by grind
  rw [this, k1, k2]; grind)
 refine ⟨i1, ?_⟩
 rw [i2]
 generalize ((nrt (a * b) : Nat) : Rat) = x at *
 generalize ((nrt (b * c) : Nat) : Rat) = y at *
 generalize (b : Rat) = b at *
 grind
/-- a term in units of the root of m, divided by m -/
def rv (m : Nat) (x : Tm) : Rat := if isq (x.2 * m) then x.1 * ((nrt (x.2 * m) : Nat) : Rat) / (m : Rat) else 0
def sv (m : Nat) : List Tm → Rat
 | [] => 0
 | x :: l => rv m x + sv m l
theorem sv_app (m : Nat) : ∀ l k : List Tm, sv m (l ++ k) = sv m l + sv m k
 | [], k => by show sv m k = 0 + sv m k; grind
 | x :: l, k => by show rv m x + sv m (l ++ k) = rv m x + sv m l + sv m k; rw [sv_app m l k]; grind
theorem sv_perm (m : Nat) {l k : List Tm} (h : l.Perm k) : sv m l = sv m k := by
 induction h with
 | nil => rfl
 | cons x _ ih => simp only [sv, ih]
 | swap x y l => simp only [sv]; grind
 | trans _ _ h1 h2 => exact h1.trans h2
theorem rv_self {x : Tm} (h : 0 < x.2) : rv x.2 x = x.1 := by
 unfold rv
 rw [if_pos (isq_sq _), nrt_sq]
 have := nat_ne h
 grind
theorem rv_none {m : Nat} {x : Tm} (h : ¬isq (x.2 * m)) : rv m x = 0 := if_neg h
theorem sv_none {m : Nat} : ∀ {l : List Tm}, (∀ x ∈ l, ¬isq (x.2 * m)) → sv m l = 0
 | [], _ => rfl
 | x :: l, h => by
   show rv m x + sv m l = 0
   rw [rv_none (h x (List.mem_cons_self ..)), sv_none fun y hy => h y (List.mem_cons_of_mem _ hy)]; grind
/-- another base -/
theorem rv_base {u m : Nat} (hu : 0 < u) (hm : 0 < m) (h : isq (u * m)) (x : Tm) : rv m x = rv u x * ((nrt (u * m) : Nat) : Rat) / (m : Rat) := by
 unfold rv
 have hup := nat_ne hu
 have hmp := nat_ne hm
 by_cases hx : isq (x.2 * u)
 ·obtain ⟨h1, h2⟩ := isq_trans hu hx h
  rw [if_pos hx, if_pos h1]
  generalize ((nrt (x.2 * u) : Nat) : Rat) = p at *
  generalize ((nrt (u * m) : Nat) : Rat) = q at *
  generalize ((nrt (x.2 * m) : Nat) : Rat) = r at *
  generalize (u : Rat) = u at *
  generalize (m : Rat) = m at *
  have : x.1 * p / u * q / m = x.1 * (p * q) / u / m := by grind
  rw [this, h2]; grind
 ·have hx2 : ¬isq (x.2 * m) := fun h' => hx (isq_trans hm h' (isq_comm.1 h)).1
  rw [if_neg hx, if_neg hx2]; grind
theorem sv_base {u m : Nat} (hu : 0 < u) (hm : 0 < m) (h : isq (u * m)) : ∀ l : List Tm, sv m l = sv u l * ((nrt (u * m) : Nat) : Rat) / (m : Rat)
 | [] => by show (0 : Rat) = 0 * _ / _; grind
 | x :: l => by
   show rv m x + sv m l = (rv u x + sv u l) * _ / _
   rw [sv_base hu hm h l, rv_base hu hm h x]; grind
/-- what a sum keeps -/
structure PreG (all l : List Tm) : Prop where
 pos : ∀ x ∈ l, 0 < x.2
 cls : l.Pairwise fun x y => ¬isq (x.2 * y.2)
 val : ∀ y ∈ l, y.1 = sv y.2 all
 low : ∀ y ∈ l, (∃ x ∈ all, x.2 = y.2) ∧ ∀ x ∈ all, isq (x.2 * y.2) → y.2 ≤ x.2
 cov : ∀ z ∈ all, ∃ y ∈ l, isq (y.2 * z.2)
theorem PreG.nil : PreG [] [] := ⟨fun x hx => (by cases hx), .nil, fun x hx => (by cases hx), fun x hx => (by cases hx), fun x hx => (by cases hx)⟩
theorem PreG.step {all l : List Tm} (h : PreG all l) (hpos : ∀ z ∈ all, 0 < z.2) {x : Tm} (hx : 0 < x.2) : PreG (all ++ [x]) (addL l x) := by
 have snoc : ∀ m, sv m (all ++ [x]) = sv m all + rv m x := fun m => by rw [sv_app]; show _ + (rv m x + 0) = _; grind
 rcases addL_cases x l with ⟨h1, h2⟩ | ⟨l1, u, l2, h1, h2, h3⟩
 ·rw [h2]
  have hz : ∀ z ∈ all, ¬isq (z.2 * x.2) := fun z hz hq => by
   obtain ⟨y, hy, hyz⟩ := h.cov z hz
   exact h1 y hy (isq_trans (hpos z hz) hyz hq).1
  refine ⟨fun y hy => ?_, ?_, fun y hy => ?_, fun y hy => ?_, fun z hz' => ?_⟩
  ·rcases List.mem_append.1 hy with hy | hy
   ·exact h.pos y hy
   ·rw [List.mem_singleton.1 hy]; exact hx
  ·refine List.pairwise_append.2 ⟨h.cls, List.pairwise_singleton _ _, fun a ha b hb => ?_⟩
   rw [List.mem_singleton.1 hb]; exact h1 a ha
  ·rw [snoc]
   rcases List.mem_append.1 hy with hy | hy
   ·rw [← h.val y hy, rv_none (fun hq => h1 y hy (isq_comm.1 hq))]; grind
   ·rw [List.mem_singleton.1 hy, sv_none hz, rv_self hx]; grind
  ·rcases List.mem_append.1 hy with hy | hy
   ·obtain ⟨⟨z, hz', e⟩, h4⟩ := h.low y hy
    refine ⟨⟨z, List.mem_append_left _ hz', e⟩, fun w hw he => ?_⟩
    rcases List.mem_append.1 hw with hw | hw
    ·exact h4 w hw he
    ·rw [List.mem_singleton.1 hw] at he; exact absurd (isq_comm.1 he) (h1 y hy)
   ·have ey := List.mem_singleton.1 hy
    subst ey
    refine ⟨⟨y, List.mem_append_right _ hy, rfl⟩, fun w hw he => ?_⟩
    rcases List.mem_append.1 hw with hw | hw
    ·exact absurd he (hz w hw)
    ·rw [List.mem_singleton.1 hw]; exact Nat.le_refl _
  ·rcases List.mem_append.1 hz' with hz' | hz'
   ·obtain ⟨y, hy, e⟩ := h.cov z hz'
    exact ⟨y, List.mem_append_left _ hy, e⟩
   ·exact ⟨x, List.mem_append_right _ (List.mem_singleton_self x), by rw [List.mem_singleton.1 hz']; exact isq_sq _⟩
 ·have hul : u ∈ l := by rw [h1]; simp
  have hu := h.pos u hul
  rw [h3]
  have hcl := h.cls
  rw [h1, List.pairwise_append] at hcl
  obtain ⟨c1, c2, c3⟩ := hcl
  obtain ⟨c4, c5⟩ := List.pairwise_cons.1 c2
  -- the merged term
  have hm : (0 < (mrg u x).2 ∧ isq ((mrg u x).2 * u.2) ∧ ((mrg u x).2 = u.2 ∨ (mrg u x).2 = x.2) ∧ (mrg u x).2 ≤ u.2 ∧ (mrg u x).2 ≤ x.2) ∧ (mrg u x).1 = rv (mrg u x).2 u + rv (mrg u x).2 x := by
   unfold mrg
   by_cases hc : x.2 < u.2
   ·rw [if_pos hc]
    refine ⟨⟨hx, isq_comm.1 h2, .inr rfl, Nat.le_of_lt hc, Nat.le_refl _⟩, ?_⟩
    show x.1 + u.1 * mkRat (nrt (u.2 * x.2)) x.2 = rv x.2 u + rv x.2 x
    rw [rv_self hx]
    unfold rv
    rw [if_pos h2, Rat.mkRat_eq_div]
    show x.1 + u.1 * (((nrt (u.2 * x.2) : Nat) : Rat) / (x.2 : Rat)) = _
    grind
   ·rw [if_neg hc]
    refine ⟨⟨hu, isq_sq _, .inl rfl, Nat.le_refl _, by show u.2 ≤ x.2; omega⟩, ?_⟩
    show u.1 + x.1 * mkRat (nrt (u.2 * x.2)) u.2 = rv u.2 u + rv u.2 x
    rw [rv_self hu]
    unfold rv
    rw [if_pos (isq_comm.1 h2), Rat.mkRat_eq_div, Nat.mul_comm u.2 x.2]
    show u.1 + x.1 * (((nrt (x.2 * u.2) : Nat) : Rat) / (u.2 : Rat)) = _
    grind
  obtain ⟨⟨m1, m2, m3, m4, m5⟩, m6⟩ := hm
  generalize mrg u x = m at *
  have mal : ∀ {z : Nat}, isq (m.2 * z) ↔ isq (u.2 * z) := fun {z} => ⟨fun hq => (isq_trans m1 (isq_comm.1 m2) hq).1, fun hq => (isq_trans hu m2 hq).1⟩
  have hmem : ∀ y, y ∈ l1 ++ m :: l2 → y = m ∨ (y ∈ l ∧ ¬isq (y.2 * u.2)) := by
   intro y hy
   rcases List.mem_append.1 hy with hy | hy
   ·exact .inr ⟨by rw [h1]; exact List.mem_append_left _ hy, c3 y hy u (List.mem_cons_self ..)⟩
   ·rcases List.mem_cons.1 hy with rfl | hy
    ·exact .inl rfl
    ·exact .inr ⟨by rw [h1]; exact List.mem_append_right _ (List.mem_cons_of_mem _ hy), fun hq => c4 y hy (isq_comm.1 hq)⟩
  refine ⟨fun y hy => ?_, ?_, fun y hy => ?_, fun y hy => ?_, fun z hz => ?_⟩
  ·rcases hmem y hy with rfl | hy
   ·exact m1
   ·exact h.pos y hy.1
  ·refine List.pairwise_append.2 ⟨c1, List.pairwise_cons.2 ⟨fun a ha hq => c4 a ha (mal.1 hq), c5⟩, fun a ha b hb => ?_⟩
   rcases List.mem_cons.1 hb with rfl | hb
   ·exact fun hq => c3 a ha u (List.mem_cons_self ..) (isq_comm.1 (mal.1 (isq_comm.1 hq)))
   ·exact c3 a ha b (List.mem_cons_of_mem _ hb)
  ·rw [snoc]
   rcases hmem y hy with rfl | ⟨hy, hne⟩
   ·rw [m6, sv_base hu m1 (isq_comm.1 m2), ← h.val u hul]
    congr 1
    unfold rv
    rw [if_pos (isq_comm.1 m2)]
   ·rw [← h.val y hy, rv_none]
    ·grind
    ·exact fun hq => hne (isq_trans hx (isq_comm.1 hq) (isq_comm.1 h2)).1
  ·rcases hmem y hy with rfl | ⟨hy, hne⟩
   ·refine ⟨?_, fun w hw he => ?_⟩
    ·rcases m3 with e | e
     ·obtain ⟨⟨z, hz, e2⟩, _⟩ := h.low u hul
      exact ⟨z, List.mem_append_left _ hz, e2.trans e.symm⟩
     ·exact ⟨x, List.mem_append_right _ (List.mem_singleton_self x), e.symm⟩
    ·rcases List.mem_append.1 hw with hw | hw
     ·have := (h.low u hul).2 w hw (isq_comm.1 (mal.1 (isq_comm.1 he))); omega
     ·rw [List.mem_singleton.1 hw]; exact m5
   ·obtain ⟨⟨z, hz, e⟩, h4⟩ := h.low y hy
    refine ⟨⟨z, List.mem_append_left _ hz, e⟩, fun w hw he => ?_⟩
    rcases List.mem_append.1 hw with hw | hw
    ·exact h4 w hw he
    ·rw [List.mem_singleton.1 hw] at he
     exact absurd (isq_trans hx (isq_comm.1 he) (isq_comm.1 h2)).1 hne
  ·have hmm : m ∈ l1 ++ m :: l2 := by simp
   rcases List.mem_append.1 hz with hz | hz
   ·obtain ⟨y, hy, e⟩ := h.cov z hz
    rw [h1] at hy
    rcases List.mem_append.1 hy with hy | hy
    ·exact ⟨y, List.mem_append_left _ hy, e⟩
    ·rcases List.mem_cons.1 hy with rfl | hy
     ·exact ⟨m, hmm, mal.2 e⟩
     ·exact ⟨y, List.mem_append_right _ (List.mem_cons_of_mem _ hy), e⟩
   ·rw [List.mem_singleton.1 hz]; exact ⟨m, hmm, mal.2 h2⟩
theorem preG_all : ∀ (n : Nat) (all : List Tm), all.length = n → (∀ x ∈ all, 0 < x.2) → PreG all (all.foldl addL [])
 | 0, all, hl, _ => by
   obtain rfl : all = [] := List.length_eq_zero_iff.1 hl
   exact PreG.nil
 | n + 1, all, hl, h => by
   obtain ⟨l, x, rfl⟩ : ∃ l' x, all = l' ++ [x] := ⟨all.dropLast, all.getLast (by intro e; rw [e] at hl; simp at hl), (List.dropLast_concat_getLast _).symm⟩
   have ih := preG_all n l (by simpa using hl) fun y hy => h y (List.mem_append_left _ hy)
   rw [List.foldl_append]
   exact ih.step (fun z hz => h z (List.mem_append_left _ hz)) (h x (List.mem_append_right _ (List.mem_singleton_self x)))
/-- the sum in order, without zeros -/
def IsSum (all r : List Tm) : Prop := r.Perm ((all.foldl addL []).filter fun x => !decide (x.1 = 0)) ∧ r.Pairwise fun x y => x.2 ≤ y.2
theorem IsSum.lt {all r : List Tm} (hp : ∀ x ∈ all, 0 < x.2) (h : IsSum all r) : r.Pairwise fun x y => x.2 < y.2 := by
 have p := preG_all all.length all rfl hp
 have hcls : r.Pairwise fun x y => ¬isq (x.2 * y.2) := h.1.symm.pairwise (p.cls.filter _) fun hab e => hab (isq_comm.1 e)
 refine (h.2.and hcls).imp fun ⟨h1, h2⟩ => ?_
 rcases Nat.lt_or_ge _ _ with h3 | h3
 ·exact h3
 ·exact absurd (by rw [Nat.le_antisymm h1 h3]; exact isq_sq _) h2
theorem IsSum.sub {all all' r r' : List Tm} (hp : ∀ x ∈ all, 0 < x.2) (hpm : all.Perm all') (h : IsSum all r) (h' : IsSum all' r') : ∀ x ∈ r, x ∈ r' := by
 intro x hx
 have hp' : ∀ x ∈ all', 0 < x.2 := fun x hx => hp x (hpm.mem_iff.2 hx)
 have p := preG_all all.length all rfl hp
 have p' := preG_all all'.length all' rfl hp'
 obtain ⟨h1, h2⟩ := List.mem_filter.1 (h.1.mem_iff.1 hx)
 have h0 : x.1 ≠ 0 := by simpa using h2
 obtain ⟨⟨z, hz, e⟩, hl⟩ := p.low x h1
 obtain ⟨y, hy, hyz⟩ := p'.cov z (hpm.mem_iff.1 hz)
 rw [e] at hyz
 obtain ⟨⟨w, hw, e2⟩, hl'⟩ := p'.low y hy
 have a1 := hl w (hpm.mem_iff.2 hw) (by rw [e2]; exact hyz)
 have a2 := hl' z (hpm.mem_iff.1 hz) (by rw [e]; exact isq_comm.1 hyz)
 have er : y.2 = x.2 := by omega
 have ev : y.1 = x.1 := by rw [p'.val y hy, p.val x h1, er, sv_perm _ hpm]
 have : y = x := Prod.ext ev er
 rw [← this]
 exact h'.1.mem_iff.2 (List.mem_filter.2 ⟨hy, by rw [this]; simpa using h0⟩)
/-- the sum does not depend on the order -/
theorem IsSum.uniq {all all' r r' : List Tm} (hp : ∀ x ∈ all, 0 < x.2) (hpm : all.Perm all') (h : IsSum all r) (h' : IsSum all' r') : r = r' :=
 sorted_ext (h.lt hp) (h'.lt fun x hx => hp x (hpm.mem_iff.2 hx)) fun x => ⟨h.sub hp hpm h' x, h'.sub (fun x hx => hp x (hpm.mem_iff.2 hx)) hpm.symm h x⟩
/-- what is added and taken away leaves nothing -/
theorem sum_cancel {s all r : List Tm} (hs : ∀ x ∈ s, 0 < x.2) (hall : all.Perm (s ++ mulT (-1) s)) (h : IsSum all r) : r = [] := by
 have hp : ∀ x ∈ all, 0 < x.2 := fun x hx => by
  rcases List.mem_append.1 (hall.mem_iff.1 hx) with h | h
  ·exact hs x h
  ·obtain ⟨y, hy, rfl⟩ := List.mem_map.1 h
   exact hs y hy
 have p := preG_all all.length all rfl hp
 have hneg : ∀ (m : Nat) (l : List Tm), sv m (mulT (-1) l) = -sv m l := by
  intro m l
  induction l with
  | nil => show (0 : Rat) = -0; grind
  | cons x l ih =>
    show rv m (x.1 * -1, x.2) + sv m (mulT (-1) l) = -(rv m x + sv m l)
    rw [ih]
    unfold rv
    dsimp only
    split <;> grind
 refine List.eq_nil_iff_forall_not_mem.2 fun x hx => ?_
 obtain ⟨h1, h2⟩ := List.mem_filter.1 (h.1.mem_iff.1 hx)
 have h0 : x.1 ≠ 0 := by simpa using h2
 refine h0 ?_
 rw [p.val x h1, sv_perm _ hall, sv_app, hneg]; grind
end Go.Proofs

/-
 SURD: Make, made, the reference's Text, Rational, Scale as contracts. Own work.
-/
namespace Go.Proofs
open Go Go.Pi Go.RowKit Go.Ar

/-- the sum of the first parts -/
def makeT (l : List Pa) (k : Nat) : List Tm := (l.take k).foldl stepP []
end Go.Proofs

/-
 SURD: Equal, Same, plain. Own work.
-/
namespace Go.Proofs
open Go Go.Pi Go.RowKit Go.Ar

end Go.Proofs

/-
 POLYLINE: sums of roots of any radicands, in the program. Own work.
-/
namespace Go.Proofs
open Go Go.Pi Go.RowKit Go.Ar

/-- small terms -/
def tB (A : Nat) (x : Tm) : Prop := rd x.1 ≤ A ∧ 0 < x.2 ∧ dl (x.2 : Int) ≤ 8
theorem rd_nrt8 {m d : Nat} (hd : 0 < d) (h : dl (d : Int) ≤ 8) (hm : dl (m : Int) ≤ 16) : rd (mkRat (nrt m) d) ≤ 8 :=
 nrt_rd (by decide) (by omega) (by rw [← dl_nat]; exact h) hm
theorem dl_mul8 {a b : Nat} (ha : dl (a : Int) ≤ 8) (hb : dl (b : Int) ≤ 8) : dl ((a * b : Nat) : Int) ≤ 16 := by
 have := dd_mul a b
 rw [dl_nat] at *; omega
theorem mrg_B {A B : Nat} {u t : Tm} (hu : tB A u) (ht : tB B t) : tB (A + B + 9) (mrg u t) := by
 unfold mrg
 by_cases h : t.2 < u.2
 ·rw [if_pos h]
  have h1 := rd_nrt8 (m := u.2 * t.2) ht.2.1 ht.2.2 (dl_mul8 hu.2.2 ht.2.2)
  have h2 := rd_mul u.1 (mkRat (nrt (u.2 * t.2)) t.2)
  have h3 := rd_add t.1 (u.1 * mkRat (nrt (u.2 * t.2)) t.2)
  have := hu.1; have := ht.1
  exact ⟨by show rd (t.1 + u.1 * mkRat (nrt (u.2 * t.2)) t.2) ≤ _; omega, ht.2⟩
 ·rw [if_neg h]
  have h1 := rd_nrt8 (m := u.2 * t.2) hu.2.1 hu.2.2 (dl_mul8 hu.2.2 ht.2.2)
  have h2 := rd_mul t.1 (mkRat (nrt (u.2 * t.2)) u.2)
  have h3 := rd_add u.1 (t.1 * mkRat (nrt (u.2 * t.2)) u.2)
  have := hu.1; have := ht.1
  exact ⟨by show rd (u.1 + t.1 * mkRat (nrt (u.2 * t.2)) u.2) ≤ _; omega, hu.2⟩
theorem tB.more {A B : Nat} {x : Tm} (h : tB A x) (hab : A ≤ B) : tB B x := ⟨Nat.le_trans h.1 hab, h.2⟩
theorem addL_B {A B : Nat} {l : List Tm} {t : Tm} (hl : ∀ x ∈ l, tB A x) (ht : tB B t) : (addL l t).length ≤ l.length + 1 ∧ ∀ x ∈ addL l t, tB (A + B + 9) x := by
 rcases addL_cases t l with ⟨_, h2⟩ | ⟨l1, u, l2, h1, _, h3⟩
 ·rw [h2]
  refine ⟨by simp, fun x hx => ?_⟩
  rcases List.mem_append.1 hx with hx | hx
  ·exact (hl x hx).more (by omega)
  ·rw [List.mem_singleton.1 hx]; exact ht.more (by omega)
 ·rw [h3]
  subst h1
  refine ⟨by simp, fun x hx => ?_⟩
  rcases List.mem_append.1 hx with hx | hx
  ·exact (hl x (List.mem_append_left _ hx)).more (by omega)
  ·rcases List.mem_cons.1 hx with rfl | hx
   ·exact mrg_B (hl u (by simp)) ht
   ·exact (hl x (List.mem_append_right _ (List.mem_cons_of_mem _ hx))).more (by omega)
theorem acc_B {A : Nat} {ts : List Tm} (h : ∀ x ∈ ts, tB A x) : ∀ n, n ≤ ts.length → ((ts.take n).foldl addL []).length ≤ n ∧ ∀ y ∈ (ts.take n).foldl addL [], tB (n * (A + 9)) y
 | 0, _ => ⟨Nat.le_refl _, fun y hy => (by cases hy)⟩
 | n + 1, hn => by
   obtain ⟨i1, i2⟩ := acc_B h n (by omega)
   have hx : ts[n]? = some (ts[n]'(by omega)) := List.getElem?_eq_getElem (by omega)
   have hm := h _ (List.mem_of_getElem? hx)
   rw [List.take_add_one, hx, Option.toList_some, List.foldl_append, List.foldl_cons, List.foldl_nil]
   obtain ⟨k1, k2⟩ := addL_B i2 hm
   refine ⟨?_, fun y hy => (k2 y hy).more ?_⟩
   ·omega
   ·rw [Nat.add_mul]; omega
/-- the sum in order -/
noncomputable def sumR (ts : List Tm) : List Tm := ((ts.foldl addL []).filter fun x => !decide (x.1 = 0)).mergeSort (fun x y => decide (x.2 ≤ y.2))
theorem sumR_is (ts : List Tm) : IsSum ts (sumR ts) := by
 refine ⟨List.mergeSort_perm _ _, ?_⟩
 have h := List.pairwise_mergeSort (le := fun x y : Tm => decide (x.2 ≤ y.2)) (fun a b c h1 h2 => by simp at *; omega) (fun a b => by simp; omega) ((ts.foldl addL []).filter fun x => !decide (x.1 = 0))
 exact h.imp fun hh => by simpa using hh
theorem sumR_B {A : Nat} {ts : List Tm} (h : ∀ x ∈ ts, tB A x) : (sumR ts).length ≤ ts.length ∧ ∀ y ∈ sumR ts, tB (ts.length * (A + 9)) y ∧ y.1 ≠ 0 := by
 obtain ⟨h1, h2⟩ := acc_B h ts.length (Nat.le_refl _)
 rw [List.take_length] at h1 h2
 have hp := (sumR_is ts).1
 refine ⟨?_, fun y hy => ?_⟩
 ·rw [hp.length_eq]
  exact Nat.le_trans (List.length_filter_le _ _) h1
 ·obtain ⟨h3, h4⟩ := List.mem_filter.1 (hp.mem_iff.1 hy)
  exact ⟨h2 y h3, by simpa using h4⟩
/-- sum as Con, of any terms -/
theorem Tryz.sumG {f A : Nat} (k : Nat → Rat) (ls : List (List Tm)) (hls : ls.length ≤ 10) (hs : ∀ s ∈ ls, s.length ≤ 100 ∧ ∀ x ∈ s, rd x.1 ≤ 500 ∧ 0 < x.2 ∧ dl (x.2 : Int) ≤ 200)
  (hf : hasBody Tryz.prog f = true) (hk : ∀ i, i < ls.length → rd (k i) ≤ 100 ∧ Con Tryz.prog Tryz.L f [.int .i64 i] (.str (rt (k i))))
  (hb : ∀ x ∈ allT k 0 ls, tB A x) (hn : (allT k 0 ls).length * (A + 9) ≤ 2000) (hl : (allT k 0 ls).length ≤ 99) (hfin : (sumR (allT k 0 ls)).length ≤ 12) :
  Con Tryz.prog Tryz.L 130 [.sl ls.length (ls.map sg), .clo f []] (sg (sumR (allT k 0 ls))) := by
 have hp := sumR_is (allT k 0 ls)
 have hpos : ∀ x ∈ allT k 0 ls, 0 < x.2 := fun x hx => (hb x hx).2.1
 refine Tryz.ssum k ls _ (by omega) hs hf hk (fun n hn' => ?_) (by rw [← hp.1.length_eq]; exact hfin) (fun r h1 h2 => IsSum.uniq hpos (List.Perm.refl _) ⟨h1, h2⟩ hp)
 obtain ⟨h1, h2⟩ := acc_B hb n hn'
 have hm : n * (A + 9) ≤ (allT k 0 ls).length * (A + 9) := Nat.mul_le_mul_right _ hn'
 exact ⟨by omega, fun y hy => by obtain ⟨h3, h4, h5⟩ := h2 y hy; exact ⟨by omega, h4, by omega⟩⟩
end Go.Proofs

/-
 POLYLINE: lengths of sides; Length, Around; the law's length. Own work.
-/
namespace Go.Proofs
open Go Go.Pi Go.RowKit Go.Ar Go.Ge

/-- a half of a small number -/
def hf (r : Rat) : Prop := ∃ X : Int, -18 ≤ X ∧ X ≤ 18 ∧ r = (X : Rat) / 2
def Hf (p : Pt) : Prop := hf p.1 ∧ hf p.2
theorem hf_tenth (x : Int) {den : Nat} (hd : den = 1 ∨ den = 2) : hf (mkRat (x.tmod 10) den) := by
 have h := tmod10 x
 generalize x.tmod 10 = y at h ⊢
 rw [Rat.mkRat_eq_div]
 rcases hd with rfl | rfl
 ·refine ⟨2 * y, by omega, by omega, ?_⟩
  rw [Rat.intCast_mul]
  have : (((1 : Nat) : Int) : Rat) = 1 := rfl
  have h2 : ((2 : Int) : Rat) = 2 := rfl
  grind
 ·refine ⟨y, by omega, by omega, ?_⟩
  have : (((2 : Nat) : Int) : Rat) = 2 := rfl
  grind
theorem hf_ptsO {den : Nat} (hd : den = 1 ∨ den = 2) (l : List Q8) : ∀ p ∈ ptsO l den, Hf p := fun p hp => by
 obtain ⟨q, _, rfl⟩ := List.mem_map.1 hp
 exact ⟨hf_tenth _ hd, hf_tenth _ hd⟩
/-- the square of a length -/
def lenQ (a b : Pt) : Rat := (b.1 - a.1) * (b.1 - a.1) + (b.2 - a.2) * (b.2 - a.2)
theorem lenQ_four {a b : Pt} (ha : Hf a) (hb : Hf b) : ∃ N : Nat, N ≤ 2592 ∧ lenQ a b = mkRat (N : Int) 4 ∧ (a ≠ b → 0 < N) := by
 obtain ⟨⟨x1, l1, u1, e1⟩, y1, l2, u2, e2⟩ := ha
 obtain ⟨⟨x2, l3, u3, e3⟩, y2, l4, u4, e4⟩ := hb
 have b1 : (x2 - x1) * (x2 - x1) ≤ 1296 ∧ 0 ≤ (x2 - x1) * (x2 - x1) := by
  have k : ∀ z : Int, -36 ≤ z → z ≤ 36 → z * z ≤ 1296 ∧ 0 ≤ z * z := fun z h1 h2 => by
   have p1 := Int.mul_nonneg (show 0 ≤ 36 - z by omega) (show 0 ≤ 36 + z by omega)
   have : (36 - z) * (36 + z) = 1296 - z * z := by grind
   rcases Int.le_total 0 z with h | h
   ·have := Int.mul_nonneg h h; omega
   ·have := Int.mul_nonneg (show 0 ≤ -z by omega) (show 0 ≤ -z by omega); rw [Int.neg_mul_neg] at this; omega
  exact k _ (by omega) (by omega)
 have b2 : (y2 - y1) * (y2 - y1) ≤ 1296 ∧ 0 ≤ (y2 - y1) * (y2 - y1) := by
  have k : ∀ z : Int, -36 ≤ z → z ≤ 36 → z * z ≤ 1296 ∧ 0 ≤ z * z := fun z h1 h2 => by
   have p1 := Int.mul_nonneg (show 0 ≤ 36 - z by omega) (show 0 ≤ 36 + z by omega)
   have : (36 - z) * (36 + z) = 1296 - z * z := by grind
   rcases Int.le_total 0 z with h | h
   ·have := Int.mul_nonneg h h; omega
   ·have := Int.mul_nonneg (show 0 ≤ -z by omega) (show 0 ≤ -z by omega); rw [Int.neg_mul_neg] at this; omega
  exact k _ (by omega) (by omega)
 refine ⟨((x2 - x1) * (x2 - x1) + (y2 - y1) * (y2 - y1)).toNat, by omega, ?_, fun hne => ?_⟩
 ·rw [show ((((x2 - x1) * (x2 - x1) + (y2 - y1) * (y2 - y1)).toNat : Nat) : Int) = (x2 - x1) * (x2 - x1) + (y2 - y1) * (y2 - y1) by omega]
  unfold lenQ
  rw [e1, e2, e3, e4, Rat.mkRat_eq_div, Rat.intCast_add, Rat.intCast_mul, Rat.intCast_mul, Rat.intCast_sub, Rat.intCast_sub]
  have : (((4 : Nat) : Int) : Rat) = 4 := rfl
  grind
 ·have h0 : x2 - x1 ≠ 0 ∨ y2 - y1 ≠ 0 := by
   refine Classical.byContradiction fun h => hne ?_
   have h1 : x2 = x1 := by omega
   have h2 : y2 = y1 := by omega
   exact Prod.ext (by rw [e1, e3, h1]) (by rw [e2, e4, h2])
  rcases h0 with h | h
  ·have : (x2 - x1) * (x2 - x1) ≠ 0 := fun e => by rcases Int.mul_eq_zero.1 e with e | e <;> omega
   omega
  ·have : (y2 - y1) * (y2 - y1) ≠ 0 := fun e => by rcases Int.mul_eq_zero.1 e with e | e <;> omega
   omega
theorem rd_lenQ {a b : Pt} (ha : Hf a) (hb : Hf b) : rd (lenQ a b) ≤ 4 := by
 obtain ⟨N, h1, h2, _⟩ := lenQ_four ha hb
 rw [h2]
 refine rd_mk (by decide) ?_ (by decide +kernel)
 show (dd _).length ≤ 4
 exact dd_len_le (by decide) (by omega)
/-- the only term of a root -/
def trm (q : Rat) : Tm := if isq (q.num.natAbs * q.den) then (mkRat (nrt (q.num.natAbs * q.den)) q.den, 1) else (mkRat 1 q.den, q.num.natAbs * q.den)
theorem ofL_trm (q : Rat) : ofL q = [trm q] := by unfold ofL trm; split <;> rfl
theorem num_posR {z : Rat} (h : 0 < z) : 0 < z.num := by
 have h3 := Rat.num_nonneg.2 (Rat.le_of_lt h)
 have h4 : z.num ≠ 0 := fun e => by rw [Rat.num_eq_zero.1 e] at h; exact absurd h (by decide)
 omega
theorem mk_ne {n : Int} {d : Nat} (hd : d ≠ 0) (hn : n ≠ 0) : mkRat n d ≠ 0 := fun h => hn ((Rat.mkRat_eq_zero hd).1 h)
theorem trm_ok {q : Rat} (h0 : 0 < q) (hr : rd q ≤ 4) : tOk (trm q) ∧ tB 4 (trm q) := by
 have hn : 0 < q.num := num_posR h0
 have hd : 0 < q.den := q.den_pos
 have hm : 0 < q.num.natAbs * q.den := Nat.mul_pos (by omega) hd
 have d1 := rd_num q; have d2 := rd_den q
 have d3 : dl ((q.num.natAbs * q.den : Nat) : Int) ≤ 8 := by
  have := dd_mul q.num.natAbs q.den
  rw [dl_nat]
  have e : dl q.num = (dd q.num.natAbs).length := rfl
  omega
 have l1 : (dd 1).length = 1 := by rw [Go.Ar.dd_one]; rfl
 unfold trm
 split
 ·rename_i hq
  have hr1 : rd (mkRat (nrt (q.num.natAbs * q.den)) q.den) ≤ 4 := nrt_rd (by decide) (by omega) (by omega) (by omega)
  have hz : nrt (q.num.natAbs * q.den) ≠ 0 := fun e => by
   unfold isq at hq; rw [e] at hq; omega
  exact ⟨⟨mk_ne (by omega) (by omega), Nat.le_trans hr1 (by decide), Nat.one_pos, by show (dd 1).length ≤ 200; omega, fun _ => rfl⟩, hr1, Nat.one_pos, by show (dd 1).length ≤ 8; omega⟩
 ·rename_i hq
  have hr1 : rd (mkRat 1 q.den) ≤ 4 := rd_mk (by omega) (by show (dd 1).length ≤ 4; omega) (by omega)
  exact ⟨⟨mk_ne (by omega) (by decide), Nat.le_trans hr1 (by decide), hm, Nat.le_trans d3 (by decide), fun h => absurd h hq⟩, hr1, hm, d3⟩
theorem Tryz.ofQ (q : Rat) (h0 : 0 < q) (hr : rd q ≤ 4) : Con Tryz.prog Tryz.L 78 [.str (rt q)] (.tup [sg [trm q], .int .i64 0]) := by
 have h := Tryz.of' q (by omega)
 have hn : 0 < q.num := num_posR h0
 have d1 := rd_num q; have d2 := rd_den q
 have d3 : dl ((q.num.natAbs * q.den : Nat) : Int) ≤ 8 := by
  have := dd_mul q.num.natAbs q.den
  rw [dl_nat]
  have e : dl q.num = (dd q.num.natAbs).length := rfl
  omega
 have e : ofD q = .tup [sg [trm q], .int .i64 0] := by
  unfold ofD
  rw [if_neg (by omega), if_neg (fun e => by rw [e] at h0; exact absurd h0 (by decide)), if_neg (fun hh => by omega), ofL_trm]
 rwa [e] at h
/-- the terms of the first k sides -/
def tmL (c : List Pt) (k : Nat) : List Tm := (List.range k).map fun i => trm (lenQ (gt c i) (gt c ((i + 1) % c.length)))
theorem tmL_succ (c : List Pt) (k : Nat) : tmL c (k + 1) = tmL c k ++ [trm (lenQ (gt c k) (gt c ((k + 1) % c.length)))] := by
 unfold tmL; rw [List.range_succ, List.map_append]; rfl
theorem tmL_len (c : List Pt) (k : Nat) : (tmL c k).length = k := by simp [tmL]
abbrev sgs (l : List Tm) : List D := l.map fun x => sg [x]
theorem sgs_snoc (l : List Tm) (x : Tm) : sgs (l ++ [x]) = sgs l ++ [sg [x]] := by simp [sgs]
theorem lenQ_pos {a b : Pt} (ha : Hf a) (hb : Hf b) (h : a ≠ b) : 0 < lenQ a b := by
 obtain ⟨N, _, h2, h3⟩ := lenQ_four ha hb
 rw [h2, Rat.mkRat_eq_div]
 have h4 : (0 : Rat) < ((N : Nat) : Rat) := Rat.natCast_pos.2 (h3 h)
 have e : (((N : Nat) : Int) : Rat) = ((N : Nat) : Rat) := rfl
 rw [e]
 have h5 : ((4 : Nat) : Rat) = 4 := rfl
 rw [h5]
 have e2 : ((N : Nat) : Rat) / 4 * 4 = ((N : Nat) : Rat) := by grind
 refine Rat.not_le.1 fun hh => ?_
 have := Rat.mul_nonneg (show 0 ≤ -(((N : Nat) : Rat) / 4) by grind) (show (0 : Rat) ≤ 4 by decide)
 grind
theorem tmL_ok {c : List Pt} {k : Nat} (hh : ∀ p ∈ c, Hf p) (hk : k ≤ c.length) (hne : ∀ j, j < k → gt c j ≠ gt c ((j + 1) % c.length)) : ∀ x ∈ tmL c k, tOk x ∧ tB 4 x := by
 intro x hx
 obtain ⟨i, hi, rfl⟩ := List.mem_map.1 hx
 rw [List.mem_range] at hi
 have h1 := hh _ (List.mem_of_getElem? (gt_eq (show i < c.length by omega)))
 have h2 := hh _ (List.mem_of_getElem? (gt_eq (show (i + 1) % c.length < c.length from Nat.mod_lt _ (by omega))))
 exact trm_ok (lenQ_pos h1 h2 (hne i hi)) (rd_lenQ h1 h2)
theorem allT_one : ∀ (ts : List Tm) (i : Nat), allT (fun _ => 1) i (ts.map fun x => [x]) = ts
 | [], _ => rfl
 | x :: ts, i => by
   show mulT 1 [x] ++ allT (fun _ => 1) (i + 1) (ts.map fun x => [x]) = x :: ts
   rw [allT_one ts (i + 1), mulT_one]; rfl
set_option maxHeartbeats 4000000 in
theorem Tryz.sumQ (ts : List Tm) (hl : ts.length ≤ 10) (h : ∀ x ∈ ts, tOk x ∧ tB 4 x) : Con Tryz.prog Tryz.L 79 [.sl ts.length (sgs ts)] (.tup [sg (sumR ts), .int .i64 0]) := by
 have hlen : (ts.map fun x => [x]).length = ts.length := List.length_map ..
 have hmap : (ts.map fun x => [x]).map sg = sgs ts := by rw [List.map_map]; rfl
 have hca := Tryz.scheckAll (ts.map fun x => [x]) (by omega) (fun s hs => by
  obtain ⟨x, hx, rfl⟩ := List.mem_map.1 hs
  exact sok1 (h x hx).1)
 have hk : ∀ i, i < (ts.map fun x => [x]).length → rd ((fun _ => 1 : Nat → Rat) i) ≤ 100 ∧ Con Tryz.prog Tryz.L 131 [.int .i64 i] (.str (rt ((fun _ => 1 : Nat → Rat) i))) := fun i _ =>
  ⟨by show rd 1 ≤ 100; rw [show (1 : Rat) = ((1 : Int) : Rat) from rfl]; exact rd_int (by decide) (by decide), Tryz.sfOne i⟩
 obtain ⟨r1, r2⟩ := sumR_B (A := 4) fun x hx => (h x hx).2
 have hsum := Tryz.sumG (f := 131) (A := 4) (fun _ => 1) (ts.map fun x => [x]) (by omega) (fun s hs => by
  obtain ⟨x, hx, rfl⟩ := List.mem_map.1 hs
  refine ⟨by simp, fun y hy => ?_⟩
  rw [List.mem_singleton.1 hy]
  have := (h x hx).2
  exact ⟨by have := this.1; omega, this.2.1, by have := this.2.2; omega⟩) (by kernel_rfl) hk (by rw [allT_one]; exact fun x hx => (h x hx).2) (by rw [allT_one]; omega) (by rw [allT_one]; omega) (by rw [allT_one]; omega)
 rw [allT_one] at hsum
 rw [hmap, hlen] at hsum hca
 have hres := Tryz.result_ok (sumR ts) (by omega) (fun x hx => by
  obtain ⟨⟨h1, h2, h3⟩, _⟩ := r2 x hx
  have : ts.length * (4 + 9) ≤ 10 * 13 := Nat.mul_le_mul hl (Nat.le_refl _)
  exact ⟨by omega, by omega⟩)
 refine rule79 Tryz.hL rfl rfl rfl ?_
 (simp only [pc79, rs79, oU, oC]; refine ev ?_; try exact ⟨⟩)
 refine callF_of hca ?_
 (refine ev ?_; try exact ⟨⟩)
 refine callF_of hsum ?_
 (refine ev ?_; try exact ⟨⟩)
 refine callF_of hres ?_
 (refine ev ?_; try exact ⟨⟩)
 simp [resD_two, rvD, lk, D.plain, D.isPure, optAll]
theorem ldQ {l : List Pt} {k t : Nat} {N : EP} {E : Env} : ldC true 2 (List.take 2 (List.drop (k * 2) (pts l))) t N E = (∃ x, l[k]? = some x ∧ N (st1 E t (.agg (pD x)))) := ldC_pts
set_option maxRecDepth 100000 in
set_option maxHeartbeats 8000000 in
theorem Tryz.psides (c : List Pt) (k : Nat) (hl : c.length ≤ 8) (hk : k ≤ c.length) (hz : ∀ p ∈ c, Sz 30 p) (hh : ∀ p ∈ c, Hf p) (hne : ∀ j, j < k → gt c j ≠ gt c ((j + 1) % c.length)) : Con Tryz.prog Tryz.L 76 [chn c, .int .i64 k] (.tup [sg (sumR (tmL c k)), .int .i64 0]) := by
 have hC : ∀ j, j < c.length → c[j]? = some (gt c j) := fun j hj => gt_eq hj
 have hS : ∀ j, j < c.length → Sz 30 (gt c j) := fun j hj => hz _ (List.mem_of_getElem? (hC j hj))
 have hF : ∀ j, j < c.length → Hf (gt c j) := fun j hj => hh _ (List.mem_of_getElem? (hC j hj))
 have hok := tmL_ok hh hk hne
 have hsum := Tryz.sumQ (tmL c k) (by rw [tmL_len]; omega) hok
 rw [tmL_len] at hsum
 refine rule76 Tryz.hL rfl rfl rfl ?_
 (simp only [pc76, rs76, oU, oC]; refine ev ?_; try exact ⟨⟩)
 refine loopF_of (fun E => ∃ i : Nat, i ≤ k ∧ E = [(0, chn c), (6, .own true 67 i (sgs (tmL c i))), (16, .int .i64 k), (17, .int .i64 i)])
  (fun E => match lk E 17 with | .int _ i => k - i.toNat | _ => 0) ⟨0, by omega, rfl⟩ ?_
 rintro _ ⟨i, hi, rfl⟩
 (refine ev ?_; repeat (simp only [ldQ]; try refine ev ?_); try exact ⟨⟩)
 refine ⟨fun h1 => ?_, fun h1 => ?_⟩
 ·have m1 : (i + 1) % c.length < c.length := Nat.mod_lt _ (by omega)
  have e2 : ((i : Int) + 1).tmod (c.length : Int) = (((i + 1) % c.length : Nat) : Int) := rfl
  rw [e2]
  simp only [Int.toNat_natCast]
  have s1 := hS i (by omega)
  have s2 := hS _ m1
  have hq := rd_lenQ (hF i (by omega)) (hF _ m1)
  have hpos := lenQ_pos (hF i (by omega)) (hF _ m1) (hne i (by omega))
  have hof := Tryz.ofQ _ hpos hq
  have hsucc := tmL_succ c i
  refine ⟨⟨by omega, by omega, by rw [pts_len]; omega⟩, _, hC i (by omega), ⟨by omega, by omega⟩, by omega, ⟨by omega, by omega, by rw [pts_len]; omega⟩, _, hC _ m1, rfl, rfl, rfl, rfl, ?_⟩
  generalize gt c i = a at hq hpos hof hsucc s1 ⊢
  generalize gt c ((i + 1) % c.length) = b at hq hpos hof hsucc s2 ⊢
  have d1 := rd_sub b.1 a.1
  have d2 := rd_sub b.2 a.2
  have a1 := s1.1; have a2 := s1.2; have b1 := s2.1; have b2 := s2.2
  have m1' := rd_mul (b.1 - a.1) (b.1 - a.1)
  have m2' := rd_mul (b.2 - a.2) (b.2 - a.2)
  (try simp only [pD]; refine ev ?_; try exact ⟨⟩)
  refine callF_of (Tryz.rsub b.1 a.1 (by omega) (by omega)) ?_
  (refine ev ?_; try exact ⟨⟩)
  refine callF_of (Tryz.rsub b.2 a.2 (by omega) (by omega)) ?_
  (refine ev ?_; try exact ⟨⟩)
  refine callF_of (Tryz.rmul (b.1 - a.1) (b.1 - a.1) (by omega) (by omega)) ?_
  (refine ev ?_; try exact ⟨⟩)
  refine callF_of (Tryz.rmul (b.2 - a.2) (b.2 - a.2) (by omega) (by omega)) ?_
  (refine ev ?_; try exact ⟨⟩)
  refine callF_of (Tryz.radd _ _ (by omega) (by omega)) ?_
  (refine ev ?_; try exact ⟨⟩)
  refine callF_of hof ?_
  (refine ev ?_; try exact ⟨⟩)
  exact ⟨by omega, by omega, ⟨by omega, by omega⟩, ⟨i + 1, by omega, by rw [hsucc, sgs_snoc]; rfl, by simp⟩, by omega⟩
 ·have e : i = k := by omega
  subst e
  refine callF_of hsum ?_
  (refine ev ?_; try exact ⟨⟩)
  simp [resD_two, rvD, lk, D.plain, D.isPure, optAll]
theorem Tryz.paround (c : List Pt) (hl : c.length ≤ 8) (hz : ∀ p ∈ c, Sz 30 p) (hh : ∀ p ∈ c, Hf p) (hg : chkN c true = 0) : Con Tryz.prog Tryz.L 37 [chn c] (.tup [sg (sumR (tmL c c.length)), .int .i64 0]) := by
 have hcc := Tryz.pringL c (by omega) hz
 rw [hg] at hcc
 have hs := Tryz.psides c c.length hl (by omega) hz hh (ring_iff.1 hg).2.2.1
 refine rule37 Tryz.hL rfl rfl rfl ?_
 (simp only [pc37, rs37, oU, oC]; refine ev ?_; try exact ⟨⟩)
 refine callF_of hcc ?_
 (refine ev ?_; try exact ⟨⟩)
 refine callF_of hs ?_
 (refine ev ?_; try exact ⟨⟩)
 simp [resD_two, rvD, lk, D.plain, D.isPure, optAll]
end Go.Proofs

/-
 POLYLINE: the law PolylineLengths. Own work.
-/
namespace Go.Proofs
open Go Go.Pi Go.RowKit Go.Ar Go.Ge

theorem good_iff' {c : List Pt} : good c = true ↔ chkN c false = 0 := good_iff
end Go.Proofs

/-
 POLYLINE: a place with a share of a side: vector.Toward. Own work.
-/
namespace Go.Proofs
open Go Go.Pi Go.RowKit Go.Ar Go.Ge

def twd (a b : Pt) (k : Rat) : Pt := (a.1 + k * (b.1 - a.1), a.2 + k * (b.2 - a.2))
theorem third_txt : rt (mkRat 1 3) = [49, 47, 51] := by
 rw [rt_mk (by decide)]
 decide +kernel
theorem rd_third : rd (mkRat 1 3) ≤ 1 := rd_mk (by decide) (by decide +kernel) (by decide +kernel)
set_option maxHeartbeats 4000000 in
theorem Tryz.pnumber1 (x : Rat) (hx : rd x ≤ 200) : Con Tryz.prog Tryz.L 84 [.sl 1 [.str (rt x)]] (.int .i64 0) := by
 refine rule84 Tryz.hL rfl rfl rfl ?_
 (simp only [pc84, rs84, oU, oC]; refine ev ?_; try exact ⟨⟩)
 refine loopF_of (fun E => ∃ k : Nat, k ≤ 1 ∧ E = [(6, .sl 1 [.str (rt x)]), (7, .int .i64 1), (8, .int .i64 k)])
  (fun E => match lk E 8 with | .int _ i => 1 - i.toNat | _ => 0) ⟨0, by omega, rfl⟩ ?_
 rintro _ ⟨k, hk, rfl⟩
 obtain rfl | rfl : k = 0 ∨ k = 1 := by omega
 ·(refine ev ?_; try exact ⟨⟩)
  refine fun _ => ⟨⟨by decide, by decide⟩, ?_⟩
  refine callF_of (Tryz.rcheckQ x hx) ?_
  (refine ev ?_; try exact ⟨⟩)
  refine ⟨⟨by decide, by decide⟩, ⟨1, by omega, rfl⟩, by decide⟩
 ·(refine ev ?_; try exact ⟨⟩)
  exact fun h => absurd h (by decide)
set_option maxHeartbeats 4000000 in
theorem Tryz.ppoints2 (a b : Pt) (ha : Sz 200 a) (hb : Sz 200 b) : Con Tryz.prog Tryz.L 83 [.sl 2 (pD a ++ pD b)] (.int .i64 0) := by
 refine rule83 Tryz.hL rfl rfl rfl ?_
 (try simp only [pD, pc83, rs83, oU, oC]; refine ev ?_; try exact ⟨⟩)
 refine loopF_of (fun E => ∃ k : Nat, k ≤ 2 ∧ E = [(6, .sl 2 [.str (rt a.1), .str (rt a.2), .str (rt b.1), .str (rt b.2)]), (7, .int .i64 2), (8, .int .i64 k)])
  (fun E => match lk E 8 with | .int _ i => 2 - i.toNat | _ => 0) ⟨0, by omega, rfl⟩ ?_
 rintro _ ⟨k, hk, rfl⟩
 obtain rfl | rfl | rfl : k = 0 ∨ k = 1 ∨ k = 2 := by omega
 ·(refine ev ?_; try exact ⟨⟩)
  refine fun _ => ⟨⟨by decide, by decide⟩, ?_⟩
  refine callF_of (Tryz.ppoint a ha) ?_
  (refine ev ?_; try exact ⟨⟩)
  refine ⟨⟨by decide, by decide⟩, ⟨1, by omega, rfl⟩, by decide⟩
 ·(refine ev ?_; try exact ⟨⟩)
  refine fun _ => ⟨⟨by decide, by decide⟩, ?_⟩
  refine callF_of (Tryz.ppoint b hb) ?_
  (refine ev ?_; try exact ⟨⟩)
  refine ⟨⟨by decide, by decide⟩, ⟨2, by omega, rfl⟩, by decide⟩
 ·(refine ev ?_; try exact ⟨⟩)
  exact fun h => absurd h (by decide)
theorem Tryz.vstep (a b k : Rat) (ha : rd a ≤ 200) (hb : rd b ≤ 200) (hk : rd k ≤ 200) : Con Tryz.prog Tryz.L 86 [.str (rt a), .str (rt b), .str (rt k)] (.str (rt (a + k * (b - a)))) := by
 have s1 := rd_sub b a
 have s2 := rd_mul k (b - a)
 refine rule86 Tryz.hL rfl rfl rfl ?_
 (simp only [pc86, rs86, oU, oC]; refine ev ?_; try exact ⟨⟩)
 refine callF_of (Tryz.rsub b a (by omega) (by omega)) ?_
 (refine ev ?_; try exact ⟨⟩)
 refine callF_of (Tryz.rmul k (b - a) (by omega) (by omega)) ?_
 (refine ev ?_; try exact ⟨⟩)
 refine callF_of (Tryz.radd a (k * (b - a)) (by omega) (by omega)) ?_
 (refine ev ?_; try exact ⟨⟩)
theorem Tryz.vlong (q : Rat) (hq : rd q ≤ 200) : Con Tryz.prog Tryz.L 135 [.str (rt q)] (.bool false) := by
 have d1 := rd_num q
 have d2 := rd_den q
 refine rule135 Tryz.hL rfl rfl rfl ?_
 (simp only [pc135, rs135, oU, oC]; refine ev ?_; try exact ⟨⟩)
 refine callF_of (Tryz.rparts q (by omega)) ?_
 (refine ev ?_; try exact ⟨⟩)
 refine callF_of (Tryz.iabs q.num (by have := tz_len q.num; have e : dl q.num = (dd q.num.natAbs).length := rfl; split at this <;> omega)) ?_
 (refine ev ?_; try exact ⟨⟩)
 have t1 := tz_len (q.num.natAbs : Int)
 have t2 := tz_len (q.den : Int)
 rw [if_neg (by omega), Int.natAbs_natCast] at t1 t2
 have e : dl q.num = (dd q.num.natAbs).length := rfl
 exact ⟨fun _ => dB_f (by omega), fun h => absurd h (by omega)⟩
theorem Tryz.vpoint (p : Pt) (h : Sz 200 p) : Con Tryz.prog Tryz.L 85 [.str (rt p.1), .str (rt p.2)] (.tup [.agg [.str (rt p.1), .str (rt p.2)], .int .i64 0]) := by
 refine rule85 Tryz.hL rfl rfl rfl ?_
 (simp only [pc85, rs85, oU, oC]; refine ev ?_; try exact ⟨⟩)
 refine callF_of (Tryz.vlong p.1 h.1) ?_
 (refine ev ?_; try exact ⟨⟩)
 refine callF_of (Tryz.vlong p.2 h.2) ?_
 (refine ev ?_; try exact ⟨⟩)
 rfl
set_option maxHeartbeats 8000000 in
theorem Tryz.vtoward (a b : Pt) (k : Rat) (ha : Sz 30 a) (hb : Sz 30 b) (hk : rd k ≤ 30) : Con Tryz.prog Tryz.L 40 [.agg (pD a), .agg (pD b), .str (rt k)] (.tup [.agg (pD (twd a b k)), .int .i64 0]) := by
 have s1 := rd_sub b.1 a.1
 have s2 := rd_mul k (b.1 - a.1)
 have s3 := rd_add a.1 (k * (b.1 - a.1))
 have t1 := rd_sub b.2 a.2
 have t2 := rd_mul k (b.2 - a.2)
 have t3 := rd_add a.2 (k * (b.2 - a.2))
 obtain ⟨a1, a2⟩ := ha
 obtain ⟨b1, b2⟩ := hb
 refine rule40 Tryz.hL rfl rfl rfl ?_
 (try simp only [pD, pc40, rs40, oU, oC]; refine ev ?_; try exact ⟨⟩)
 refine callF_of (Tryz.ppoints2 a b ⟨by omega, by omega⟩ ⟨by omega, by omega⟩) ?_
 (refine ev ?_; try exact ⟨⟩)
 refine callF_of (Tryz.pnumber1 k (by omega)) ?_
 (refine ev ?_; try exact ⟨⟩)
 refine callF_of (Tryz.vstep a.1 b.1 k (by omega) (by omega) (by omega)) ?_
 (refine ev ?_; try exact ⟨⟩)
 refine callF_of (Tryz.vstep a.2 b.2 k (by omega) (by omega) (by omega)) ?_
 (refine ev ?_; try exact ⟨⟩)
 refine callF_of (Tryz.vpoint (twd a b k) ⟨by show rd (a.1 + k * (b.1 - a.1)) ≤ _; omega, by show rd (a.2 + k * (b.2 - a.2)) ≤ _; omega⟩) ?_
 (try simp only [twd]; refine ev ?_; try exact ⟨⟩)
 simp [resD_two, rvD, lk, D.plain, D.isPure, optAll, ofCells]
end Go.Proofs

/-
 POLYLINE: a sum of roots is equal to itself. Own work.
-/
namespace Go.Proofs
open Go Go.Pi Go.RowKit Go.Ar Go.Ge

theorem sumR_ok {ts : List Tm} (hl : ts.length ≤ 8) (h : ∀ x ∈ ts, tOk x ∧ tB 4 x) : SOk (sumR ts) ∧ ∀ x ∈ sumR ts, tB 104 x := by
 obtain ⟨r1, r2⟩ := sumR_B (A := 4) fun x hx => (h x hx).2
 have hpos : ∀ x ∈ ts, 0 < x.2 := fun x hx => (h x hx).1.2.2.1
 have hs := sumR_is ts
 have p := preG_all ts.length ts rfl hpos
 have hm : ∀ x ∈ sumR ts, x ∈ ts.foldl addL [] := fun x hx => (List.mem_filter.1 (hs.1.mem_iff.1 hx)).1
 have hb : ∀ x ∈ sumR ts, tB 104 x := fun x hx => by
  obtain ⟨b, _⟩ := r2 x hx
  have : ts.length * (4 + 9) ≤ 8 * 13 := Nat.mul_le_mul hl (Nat.le_refl _)
  exact b.more (by omega)
 refine ⟨⟨by omega, fun x hx => ?_, ?_⟩, hb⟩
 ·obtain ⟨b1, b2, b3⟩ := hb x hx
  refine ⟨(r2 x hx).2, by omega, b2, by omega, fun hq => ?_⟩
  obtain ⟨⟨z, hz, e⟩, _⟩ := p.low x (hm x hx)
  have := (h z hz).1.2.2.2.2
  rw [e] at this
  exact this hq
 ·have hlt := hs.lt hpos
  have hc : (sumR ts).Pairwise fun x y => ¬isq (x.2 * y.2) := by
   have h1 : ((ts.foldl addL []).filter fun x => !decide (x.1 = 0)).Pairwise fun x y => ¬isq (x.2 * y.2) := p.cls.sublist List.filter_sublist
   exact (hs.1.pairwise_iff fun hxy hq => hxy (isq_comm.1 hq)).2 h1
  intro i j x y hij hx hy
  obtain ⟨hi, rfl⟩ := List.getElem?_eq_some_iff.1 hx
  obtain ⟨hj, rfl⟩ := List.getElem?_eq_some_iff.1 hy
  exact ⟨List.pairwise_iff_getElem.1 hlt i j hi hj hij, List.pairwise_iff_getElem.1 hc i j hi hj hij⟩
set_option maxHeartbeats 4000000 in
theorem Tryz.sEqSelf {ts : List Tm} (hl : ts.length ≤ 8) (h : ∀ x ∈ ts, tOk x ∧ tB 4 x) : Con Tryz.prog Tryz.L 39 [sg (sumR ts), sg (sumR ts)] (.tup [.bool true, .int .i64 0]) := by
 obtain ⟨hok, hb⟩ := sumR_ok hl h
 have hrl : (sumR ts).length ≤ 8 := Nat.le_trans (sumR_B (A := 4) fun x hx => (h x hx).2).1 hl
 generalize sumR ts = r at *
 have hca := Tryz.scheckAll [r, r] (by simp) (fun q hq => by
  simp only [List.mem_cons, List.not_mem_nil, or_false] at hq
  rcases hq with rfl | rfl <;> exact hok)
 have e : allT kD 0 [r, r] = r ++ mulT (-1) r := by
  show mulT 1 r ++ (mulT (-1) r ++ []) = _
  rw [mulT_one, List.append_nil]
 have hml : (mulT (-1) r).length = r.length := by simp [mulT]
 have hall : ∀ x ∈ r ++ mulT (-1) r, tB 105 x := fun x hx => by
  rcases List.mem_append.1 hx with hx | hx
  ·exact (hb x hx).more (by decide)
  ·obtain ⟨y, hy, rfl⟩ := List.mem_map.1 hx
   obtain ⟨q1, q2, q3⟩ := hb y hy
   have h1 := rd_mul y.1 (-1)
   have h2 : rd (-1) ≤ 1 := by rw [show (-1 : Rat) = ((-1 : Int) : Rat) from rfl]; exact rd_int (by decide) (by decide)
   exact ⟨by show rd (y.1 * -1) ≤ 105; omega, q2, q3⟩
 have hnil : sumR (r ++ mulT (-1) r) = [] := sum_cancel (fun x hx => (hb x hx).2.1) (List.Perm.refl _) (sumR_is _)
 have hsum := Tryz.sumG (f := 134) (A := 105) kD [r, r] (by simp) (fun s hs' => by
  simp only [List.mem_cons, List.not_mem_nil, or_false] at hs'
  have : s = r := by rcases hs' with rfl | rfl <;> rfl
  subst this
  refine ⟨by omega, fun y hy => ?_⟩
  obtain ⟨q1, q2, q3⟩ := hb y hy
  exact ⟨by omega, q2, by omega⟩) (by kernel_rfl) (fun i hi => ⟨by
   unfold kD
   split
   ·rw [show (1 : Rat) = ((1 : Int) : Rat) from rfl]; exact rd_int (by decide) (by decide)
   ·rw [show (-1 : Rat) = ((-1 : Int) : Rat) from rfl]; exact rd_int (by decide) (by decide), Tryz.sfSign i hi⟩)
  (by rw [e]; exact hall) (by rw [e, List.length_append, hml]; omega) (by rw [e, List.length_append, hml]; omega) (by rw [e, hnil]; decide)
 rw [e, hnil] at hsum
 have hd : Con Tryz.prog Tryz.L 82 [sg r, sg r] (sg []) := by
  refine rule82 Tryz.hL rfl rfl rfl ?_
  (simp only [pc82, rs82, oU, oC]; refine ev ?_; try exact ⟨⟩)
  refine callF_of hsum ?_
  (refine ev ?_; try exact ⟨⟩)
 refine rule39 Tryz.hL rfl rfl rfl ?_
 (simp only [pc39, rs39, oU, oC]; refine ev ?_; try exact ⟨⟩)
 refine callF_of hca ?_
 (refine ev ?_; try exact ⟨⟩)
 refine callF_of hd ?_
 (refine ev ?_; try exact ⟨⟩)
 simp [resD_two, rvD, lk, D.plain, D.isPure, optAll, dB_True]
end Go.Proofs

/-
 POLYLINE: the law PolylineLaws. Own work.
-/
namespace Go.Proofs
open Go Go.Pi Go.RowKit Go.Ar Go.Ge

theorem lenQ_symm (a b : Pt) : lenQ a b = lenQ b a := by unfold lenQ; grind
theorem tmL_get {c : List Pt} {k i : Nat} (h : i < (tmL c k).length) : (tmL c k)[i] = trm (lenQ (gt c i) (gt c ((i + 1) % c.length))) := by simp [tmL]
theorem tmL_rev {c : List Pt} (h3 : 3 ≤ c.length) : (tmL c.reverse c.length).Perm (tmL c c.length) := by
 obtain ⟨m, hm⟩ : ∃ m, c.length = m + 1 := ⟨c.length - 1, by omega⟩
 have hr : c.reverse.length = c.length := List.length_reverse
 have e1 : tmL c.reverse m = (tmL c m).reverse := by
  refine List.ext_getElem (by rw [List.length_reverse, tmL_len, tmL_len]) fun i h1 h2 => ?_
  have hi : i < m := by rw [tmL_len] at h1; exact h1
  have g1 : gt c.reverse i = gt c (m - 1 - i + 1) := by
   have := gt_rev (c := c) (j := i) (by omega)
   rw [this]; congr 1; omega
  have g2 : gt c.reverse (i + 1) = gt c (m - 1 - i) := by
   have := gt_rev (c := c) (j := i + 1) (by omega)
   rw [this]; congr 1; omega
  have m1 : (i + 1) % c.reverse.length = i + 1 := Nat.mod_eq_of_lt (by omega)
  have m2 : (m - 1 - i + 1) % c.length = m - 1 - i + 1 := Nat.mod_eq_of_lt (by omega)
  rw [List.getElem_reverse, tmL_get, tmL_get, tmL_len, m1, m2, g1, g2]
  exact congrArg trm (lenQ_symm _ _)
 have e2 : trm (lenQ (gt c.reverse m) (gt c.reverse ((m + 1) % c.reverse.length))) = trm (lenQ (gt c m) (gt c ((m + 1) % c.length))) := by
  have g1 : gt c.reverse m = gt c 0 := by
   have := gt_rev (c := c) (j := m) (by omega)
   rw [this]; congr 1; omega
  have g2 : gt c.reverse 0 = gt c m := by
   have := gt_rev (c := c) (j := 0) (by omega)
   rw [this]; congr 1; omega
  rw [hr, ← hm, Nat.mod_self, g1, g2]
  exact congrArg trm (lenQ_symm _ _)
 have a1 : tmL c.reverse c.length = tmL c.reverse m ++ [trm (lenQ (gt c.reverse m) (gt c.reverse ((m + 1) % c.reverse.length)))] := by rw [hm]; exact tmL_succ _ _
 have a2 : tmL c c.length = tmL c m ++ [trm (lenQ (gt c m) (gt c ((m + 1) % c.length)))] := by
  have := tmL_succ c m
  rwa [show tmL c (m + 1) = tmL c c.length by rw [hm]] at this
 rw [a1, a2, e1, e2]
 exact (List.reverse_perm _).append_right _
theorem sumR_perm {l k : List Tm} (h : l.Perm k) (hp : ∀ x ∈ l, 0 < x.2) : sumR l = sumR k := IsSum.uniq hp h (sumR_is l) (sumR_is k)
theorem has_own {c : List Pt} {k : Nat} (h2 : 2 ≤ c.length) (hk : k < c.length) : hasB c (gt c k) = true := by
 refine hasB_iff.2 ?_
 by_cases h0 : k = 0
 ·subst h0
  exact ⟨0, by omega, btw_onS.2 (onS_left _ _)⟩
 ·refine ⟨k - 1, by omega, ?_⟩
  rw [show k - 1 + 1 = k by omega]
  exact btw_onS.2 (onS_right _ _)
theorem loc_own {c : List Pt} {k : Nat} (hk : k < c.length) {p : Pt} (hp : onS (gt c k) (gt c ((k + 1) % c.length)) p) : locP c p = 0 := if_pos (locB_iff.2 ⟨k, hk, btw_onS.2 hp⟩)
theorem onS_third (a b : Pt) : onS a b (twd a b (mkRat 1 3)) := ⟨mkRat 1 3, by decide +kernel, by decide +kernel, rfl, rfl⟩
set_option maxRecDepth 100000 in
set_option maxHeartbeats 16000000 in
theorem Tryz.polyLaws (l : List Q8) (halves : Bool) (hl : l.length ≤ 1048576) (ql : ∀ p ∈ l, okQ p) : Con Tryz.prog Tryz.L 9 [.sl l.length (q8s l), .bool halves] (.bool true) := by
 have pl := Tryz.lpoints l halves hl ql
 have hden : (if halves then 2 else 1) = 1 ∨ (if halves then 2 else 1) = 2 := by cases halves; exact .inl rfl; exact .inr rfl
 have zl : ∀ p ∈ ptsO l (if halves then 2 else 1), Sz 1 p := sz_ptsO hden l
 have hh : ∀ p ∈ ptsO l (if halves then 2 else 1), Hf p := hf_ptsO hden l
 have ll := ptsO_len l (if halves then 2 else 1)
 refine rule9 Tryz.hL rfl rfl rfl ?_
 (simp only [pc9, rs9, oU, oC]; refine ev ?_; try exact ⟨⟩)
 generalize ptsO l (if halves then 2 else 1) = c at *
 refine callF_of pl ?_
 (refine ev ?_; try exact ⟨⟩)
 refine callF_of Tryz.known11 ?_
 (refine ev ?_; try exact ⟨⟩)
 have h8 : c.length ≤ 8 := by omega
 have hzc : ∀ p ∈ c, Sz 30 p := fun p hp => (zl p hp).more (by decide)
 have hri := Tryz.pringL c (by omega) hzc
 generalize hcN : chkN c true = r at hri
 refine ⟨fun h1 => ?_, fun h1 => callF_of Tryz.known11 (by (refine ev ?_; try exact ⟨⟩))⟩
 refine callF_of hri ?_
 (refine ev ?_; try exact ⟨⟩)
 refine ⟨fun h2 => callF_of Tryz.known11 (by (refine ev ?_; try exact ⟨⟩)), fun h2 => ?_⟩
 have hg : chkN c true = 0 := by rw [hcN]; exact Classical.not_not.1 h2
 have h3 := (ring_iff.1 hg).1
 refine ⟨⟨by omega, by omega⟩, ?_⟩
 refine loopF_of (fun E => ∃ m : Nat, m ≤ c.length ∧ E = [(5, chn c), (6, .own true 35 m (pts (c.reverse.take m))), (7, .int .i64 ((c.length : Int) - 1 - m))])
  (fun E => match lk E 7 with | .int _ i => (i + 1).toNat | _ => 0) ?_ ?_
 ·exact ⟨0, by omega, by simp [rows]⟩
 rintro _ ⟨m, hm, rfl⟩
 (refine ev ?_; repeat (simp only [ldC_pts]; try refine ev ?_); try exact ⟨⟩)
 refine ⟨fun h4 => ?_, fun h4 => ?_⟩
 ·have hx : c.reverse[m]? = some (gt c (c.length - 1 - m)) := by rw [List.getElem?_reverse (by omega)]; exact gt_eq (by omega)
  have e0 : ((c.length : Int) - 1 - m).toNat = c.length - 1 - m := by omega
  rw [e0]
  refine ⟨⟨by omega, by omega, by rw [pts_len]; omega⟩, _, gt_eq (show c.length - 1 - m < c.length by omega), ?_⟩
  have ht := pts_take hx
  generalize gt c (c.length - 1 - m) = x at ht
  (try simp only [pD]; refine ev ?_; try exact ⟨⟩)
  exact ⟨by omega, by omega, ⟨by omega, by omega⟩, ⟨m + 1, by omega, by rw [← ht]; exact ⟨rfl, by rw [show (c.length : Int) - 1 - m - 1 = c.length - 1 - ((m + 1 : Nat) : Int) by omega]⟩⟩, by omega⟩
 ·have e : m = c.length := by omega
  subst e
  have hrl : c.reverse.length = c.length := List.length_reverse
  have htk : c.reverse.take c.length = c.reverse := List.take_of_length_le (by omega)
  rw [htk]
  have hgb := ring_rev (by omega) hg
  have hzb : ∀ p ∈ c.reverse, Sz 30 p := fun p hp => hzc p (List.mem_reverse.1 hp)
  have hhb : ∀ p ∈ c.reverse, Hf p := fun p hp => hh p (List.mem_reverse.1 hp)
  have r1 := rd_totK1 zl (k := c.length) (Nat.le_refl _)
  have eback : totK c.reverse c.length = -totK c c.length := by
   have a1 := totK_cyc c.reverse
   rw [hrl] at a1
   rw [a1, totK_cyc, cyc_rev]
  have cA := Tryz.pareaR c h8 hzc hg (by omega)
  have cB := Tryz.pareaR c.reverse (by omega) hzb hgb (by rw [hrl, eback, rd_neg]; omega)
  rw [hrl, eback] at cB
  have cX := Tryz.paround c h8 hzc hh hg
  have cY := Tryz.paround c.reverse (by omega) hzb hhb hgb
  rw [hrl] at cY
  have hne := (ring_iff.1 hg).2.2.1
  have htm := tmL_ok hh (Nat.le_refl _) hne
  have hsame : sumR (tmL c.reverse c.length) = sumR (tmL c c.length) := sumR_perm (tmL_rev h3) (fun x hx => (htm x ((tmL_rev h3).mem_iff.1 hx)).1.2.2.1)
  rw [hsame] at cY
  have cE := Tryz.sEqSelf (ts := tmL c c.length) (by rw [tmL_len]; exact h8) htm
  have hchB : chn c.reverse = .sl c.length (pts c.reverse) := by show D.sl _ _ = _; rw [hrl]
  rw [hchB] at cB cY
  refine callF_of cA ?_
  (refine ev ?_; try exact ⟨⟩)
  refine callF_of cB ?_
  (refine ev ?_; try exact ⟨⟩)
  refine callF_of cX ?_
  (refine ev ?_; try exact ⟨⟩)
  refine callF_of cY ?_
  (refine ev ?_; try exact ⟨⟩)
  refine callF_of cE ?_
  (refine ev ?_; try exact ⟨⟩)
  refine callF_of (Tryz.radd (totK c c.length) (-totK c c.length) (by omega) (by rw [rd_neg]; omega)) ?_
  (refine ev ?_; try exact ⟨⟩)
  have hz0 : rt (totK c c.length + -totK c c.length) = [48] := by rw [show totK c c.length + -totK c c.length = 0 by grind, zero_txt]
  refine ⟨fun _ => ?_, fun h => absurd hz0 h⟩
  refine callF_of (Tryz.rsign (totK c c.length) (by omega)) ?_
  (refine ev ?_; try exact ⟨⟩)
  have hcy : totK c c.length ≠ 0 := by rw [totK_cyc]; exact ring_cyc hg
  refine ⟨fun h => absurd ((sign_num _).2.1.1 (Int.sign_eq_zero_iff_zero.1 h)) hcy, fun _ => ?_⟩
  refine loopF_of (fun E => ∃ k : Nat, k ≤ c.length ∧ E = [(5, chn c), (18, .int .i64 k)])
   (fun E => match lk E 18 with | .int _ i => c.length - i.toNat | _ => 0) ⟨0, by omega, rfl⟩ ?_
  rintro _ ⟨k, hk, rfl⟩
  (refine ev ?_; repeat (simp only [ldC_pts]; try refine ev ?_); try exact ⟨⟩)
  intro h5
  have m1 : (k + 1) % c.length < c.length := Nat.mod_lt _ (by omega)
  have e2 : ((k : Int) + 1).tmod (c.length : Int) = (((k + 1) % c.length : Nat) : Int) := rfl
  have hS : ∀ j, j < c.length → Sz 30 (gt c j) := fun j hj => hzc _ (List.mem_of_getElem? (gt_eq hj))
  have hk' : k < c.length := by omega
  have cL : Con Tryz.prog Tryz.L 27 [chn c, .agg (pD (gt c k))] (.tup [.int .i64 0, .int .i64 0]) := by
   have := Tryz.plocate c (gt c k) (by omega) hzc ((hS k hk').more (by decide)) hg h3
   rw [loc_own hk' (onS_left _ _)] at this
   exact this
  have cH : Con Tryz.prog Tryz.L 26 [chn c, .agg (pD (gt c k))] (.tup [.bool true, .int .i64 0]) := by
   have := Tryz.phas c (gt c k) (by omega) hzc ((hS k hk').more (by decide)) (good_iff'.2 (ring_chain hg))
   rw [has_own (by omega) hk'] at this
   exact this
  have r3 := rd_third
  have cT := Tryz.vtoward (gt c k) (gt c ((k + 1) % c.length)) (mkRat 1 3) (hS k hk') (hS _ m1) (by omega)
  rw [third_txt] at cT
  have hM : Sz 200 (twd (gt c k) (gt c ((k + 1) % c.length)) (mkRat 1 3)) := by
   obtain ⟨a1, a2⟩ := hS k hk'
   obtain ⟨b1, b2⟩ := hS _ m1
   generalize gt c k = a at *
   generalize gt c ((k + 1) % c.length) = b at *
   have s1 := rd_sub b.1 a.1
   have s2 := rd_mul (mkRat 1 3) (b.1 - a.1)
   have s3 := rd_add a.1 (mkRat 1 3 * (b.1 - a.1))
   have t1 := rd_sub b.2 a.2
   have t2 := rd_mul (mkRat 1 3) (b.2 - a.2)
   have t3 := rd_add a.2 (mkRat 1 3 * (b.2 - a.2))
   exact ⟨by show rd (a.1 + mkRat 1 3 * (b.1 - a.1)) ≤ _; omega, by show rd (a.2 + mkRat 1 3 * (b.2 - a.2)) ≤ _; omega⟩
  have cM : Con Tryz.prog Tryz.L 27 [chn c, .agg (pD (twd (gt c k) (gt c ((k + 1) % c.length)) (mkRat 1 3)))] (.tup [.int .i64 0, .int .i64 0]) := by
   have := Tryz.plocate c _ (by omega) hzc hM hg h3
   rw [loc_own hk' (onS_third _ _)] at this
   exact this
  refine ⟨⟨by omega, by omega, by rw [pts_len]; omega⟩, _, gt_eq hk', ?_⟩
  refine callF_of cL ?_
  (refine ev ?_; repeat (simp only [ldC_pts]; try refine ev ?_); try exact ⟨⟩)
  refine ⟨⟨by omega, by omega, by rw [pts_len]; omega⟩, _, gt_eq hk', ?_⟩
  refine callF_of cH ?_
  (refine ev ?_; repeat (simp only [ldC_pts]; try refine ev ?_); try exact ⟨⟩)
  refine ⟨⟨by omega, by omega, by rw [pts_len]; omega⟩, _, gt_eq hk', ?_⟩
  rw [e2]
  simp only [Int.toNat_natCast]
  refine ⟨⟨by omega, by omega⟩, by omega, ⟨by omega, by omega, by rw [pts_len]; omega⟩, _, gt_eq m1, ?_⟩
  refine callF_of cT ?_
  generalize twd (gt c k) (gt c ((k + 1) % c.length)) (mkRat 1 3) = md at cM ⊢
  (try simp only [pD]; refine ev ?_; try exact ⟨⟩)
  refine callF_of cM ?_
  (refine ev ?_; try exact ⟨⟩)
  exact ⟨⟨by omega, by omega⟩, ⟨k + 1, by omega, by simp⟩, by omega⟩
end Go.Proofs
