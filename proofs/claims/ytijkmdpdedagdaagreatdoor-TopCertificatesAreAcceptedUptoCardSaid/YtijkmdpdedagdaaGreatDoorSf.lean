/-
  CHECKER: arc, Order, in the plain walk. Own work.
-/
import Derived.Test.YtijkmdpdedagdaaGreatDoorPj
import Derived.Test.YtijkmdpdedagdaaGreatDoorSd
import Derived.Test.YtijkmdpdedagdaaGreatDoorSe
import Derived.Test.YtijkmdpdedagdaaGreatDoorEh
import Derived.Test.YtijkmdpdedagdaaGreatDoorEf
import Derived.Deep.RegionHeld3
set_option linter.unusedVariables false
set_option linter.unusedSimpArgs false
namespace Go.Tp
open Go Go.Pi
/-- an order keeps the relations -/
def keptB (l : List Rl) (o : List (List UInt8)) : Bool := l.all fun x => decide (x.k = 4 ∨ o.idxOf x.l < o.idxOf x.u)
theorem keptB_no {l : List Rl} {o : List (List UInt8)} {i : Nat} {x : Rl} (h : l[i]? = some x) (hx : ¬(x.k = 4 ∨ o.idxOf x.l < o.idxOf x.u)) : keptB l o = false := by
  cases hk : keptB l o with
  | false => rfl
  | true => exact absurd (by simpa using List.all_eq_true.1 hk x (List.mem_of_getElem? h)) hx
theorem rels_cut : ∀ {l : List Rl} {i : Nat} {x : Rl}, l[i]? = some x → List.take 3 (List.drop (i * 3) (rels l)) = relD x
  | y :: l, 0, x, h => by cases h; rfl
  | y :: l, i + 1, x, h => by
    have ih := rels_cut (l := l) (i := i) (x := x) (by simpa using h)
    rw [show (i + 1) * 3 = i * 3 + 3 by omega]
    exact ih
end Go.Tp
namespace Go.Proofs
open Go Go.Pi Go.RowKit Go.Shelf Go.Tp Go.Lib
theorem Tryz.ckArc (l : List Rl) (hl : l.length ≤ 200) (hk : ∀ x ∈ l, 1 ≤ x.k ∧ x.k ≤ 4) {i : Nat} {x : Rl} (hx : l[i]? = some x) : Con Tryz.prog Tryz.L 21 [relsD l, .int .i64 i] (.bool (decide (x.k ≠ 4))) := by
  have hi := (List.getElem?_eq_some_iff.1 hx).1
  have h4 := hk x (List.mem_of_getElem? hx)
  refine rule21 Tryz.hL rfl rfl rfl ?_
  (simp only [pc21, rs21, oU, oC]; refine ev ?_; try with_reducible exact trivial)
  rw [rels_cut hx]
  simp only [relD, evX, evY, evZ, forall_const, implies_true, initE, stepF, D.clean, mvF, moF, tkF, shF, ariF, ciF, catF, scF, ebF, eqF, eqOk, eqPr, enF, notF, ngF, cvF, csF, csbF, lenF, lenSF, ixF, iaF, PX.slot, iaAF, faF, ldF, D.mem, stF, bxF, mkSF, boundF, fldF, ixAF, mmF2, D.plain, D.isPure, optAll, D.dull, callVF, splice, D.cells, D.one, sets, resT, D.flat, D.flat0, D.simple, Nat.reduceBNe, Nat.reduceLT, reduceIte, Nat.reduceEqDiff, Nat.reduceAdd, Nat.reduceMul, Nat.reduceSub, Nat.reduceLeDiff, Int.reduceToNat, Int.reduceLT, Int.reduceLE, Int.reduceEq, Int.reduceNeg, Int.reduceSub, Int.reduceAdd, Int.reduceMul, stG_own]
  refine ⟨fun _ => ⟨fun _ => ⟨⟨by omega, by omega, by rw [rels_len]; omega⟩, ?_⟩, fun h => absurd (by omega) h⟩, fun h => absurd (by omega) h⟩
  refine ⟨fun _ => ⟨⟨by omega, by omega, by rw [rels_len]; omega⟩, ?_⟩, fun h => absurd (by omega) h⟩
  rw [rels_cut hx]
  simp only [relD, evX, evY, evZ, forall_const, implies_true, initE, stepF, D.clean, mvF, moF, tkF, shF, ariF, ciF, catF, scF, ebF, eqF, eqOk, eqPr, enF, notF, ngF, cvF, csF, csbF, lenF, lenSF, ixF, iaF, PX.slot, iaAF, faF, ldF, D.mem, stF, bxF, mkSF, boundF, fldF, ixAF, mmF2, D.plain, D.isPure, optAll, D.dull, callVF, splice, D.cells, D.one, sets, resT, D.flat, D.flat0, D.simple, Nat.reduceBNe, Nat.reduceLT, reduceIte, Nat.reduceEqDiff, Nat.reduceAdd, Nat.reduceMul, Nat.reduceSub, Nat.reduceLeDiff, Int.reduceToNat, Int.reduceLT, Int.reduceLE, Int.reduceEq, Int.reduceNeg, Int.reduceSub, Int.reduceAdd, Int.reduceMul, stG_own]
  rw [← dB_dec]
  exact decide_eq_decide.2 ⟨fun h => by omega, fun h => by omega⟩
set_option maxRecDepth 100000 in
set_option maxHeartbeats 16000000 in
theorem Tryz.ckOrder (l : List Rl) (o : List (List UInt8)) (hl : l.length ≤ 200) (ho : o.length ≤ 200) (hn : o.Nodup) (hm : ∀ x ∈ l, x.u ∈ o ∧ x.l ∈ o) (hk : ∀ x ∈ l, 1 ≤ x.k ∧ x.k ≤ 4) : Con Tryz.prog Tryz.L 10 [relsD l, strsD o] (.bool (keptB l o)) := by
  have mixed : Tryz.prog.follows .mixedOrders = true := by kernel_rfl
  have t0 := Tryz.underlying30
  have t1 := Tryz.underlying9; have a1 := Tryz.isAgg9; have z1 := Tryz.sizeOf9; have v1 := Tryz.zeroValue9; have u1 := run_underlying Tryz.underlying9
  have t2 := Tryz.underlying42; have a2 := Tryz.isAgg42; have z2 := Tryz.sizeOf42; have v2 := Tryz.zeroValue42; have u2 := run_underlying Tryz.underlying42
  have t3 := Tryz.underlying4
  have t4 := Tryz.underlying3; have a4 := Tryz.isAgg3; have z4 := Tryz.sizeOf3; have v4 := Tryz.zeroValue3; have u4 := run_underlying Tryz.underlying3
  have t5 := Tryz.underlying24
  have t10 := Tryz.underlying52
  have rmm : ∀ w : World, (Instr.makeMap 52 none).run Tryz.prog w = .ok (.map (some w.heap.size)) (w.alloc (.map #[] 0)) := fun w => rfl
  refine ⟨⟨by kernel_rfl, rfl⟩, fun S W vs hS hL hrep => ?_⟩
  obtain ⟨va, r1, rfl, hra, t1'⟩ := hrep.uncons
  obtain ⟨vb, r2, rfl, hrb, t2'⟩ := t1'.uncons
  obtain rfl : r2 = [] := List.length_eq_zero_iff.1 t2'.1.symm
  clear t1' t2' hrep
  obtain ⟨ad, cap, rfl, HC⟩ := rel_cells hra
  obtain ⟨ado, capo, rfl, HO⟩ := str_cells hrb
  have HC' : Hid (∀ j x, l[j]? = some x → ∃ b off, ad = some ⟨b, off, none⟩ ∧ b < W.heap.size ∧ W.cell? ⟨b, off + j * 3, none⟩ = some (.int .i64 x.k) ∧ W.cell? ⟨b, off + j * 3 + 1, none⟩ = some (.string ⟨x.u.toArray⟩) ∧ W.cell? ⟨b, off + j * 3 + 2, none⟩ = some (.string ⟨x.l.toArray⟩) ∧ x.u.length ≤ maxLen ∧ x.l.length ≤ maxLen) := by
    intro j x hj
    obtain ⟨b, off, e1, e2, e3, e4, e5, e6⟩ := HC j x hj
    exact ⟨b, off, e1, hS b _ (e2 0 (by decide)), e3, e4, e5, e6⟩
  have HO' : Hid (∀ (j : Nat) (x : List UInt8), o[j]? = some x → ∃ b off, ado = some ⟨b, off, none⟩ ∧ b < W.heap.size ∧ W.cell? ⟨b, off + j, none⟩ = some (.string ⟨x.toArray⟩) ∧ x.length ≤ maxLen) := by
    intro j x hj
    obtain ⟨b, off, e1, e2, e3, e4⟩ := HO j x hj
    exact ⟨b, off, e1, hS b _ e2, e3, e4⟩
  have HR : Hid (Rep S W (relsD l) (.slice ad l.length cap)) := hra
  have HS : Hid (∀ b j, S b j → b < W.heap.size) := hS
  have HM : Hid (∀ x ∈ l, x.u ∈ o ∧ x.l ∈ o) := hm
  have HK : Hid (∀ x ∈ l, 1 ≤ x.k ∧ x.k ≤ 4) := hk
  clear HC HO hra hrb hS hm hk
  have hm0 := MapI.made W Tryz.prog 9 3
  rw [← numK_zero o] at hm0
  have hn0 := Nat.zero_le o.length
  have hn1 := Nat.zero_le l.length
  show Calls _ _ #[.slice ad l.length cap, .slice ado o.length capo] _ _
  go_enter Tryz.func10, Tryz.ntmps10
  go_wp2
  go_loopg [19] o.length (fun gg s19 wr => ∃ k : Nat, s19 = .int .i64 k ∧ k ≤ o.length ∧ o.length ≤ gg + k ∧ MapI Tryz.prog 9 3 wr W.heap.size k (numK o k) ∧ Below W.heap.size W wr)
  case atStart => exact ⟨0, rfl, by omega, by omega, hm0, (Below.refl _ _).alloc (Nat.le_refl _) _⟩
  case round =>
    obtain ⟨k, rfl, hk, hgk, hmap, hbw⟩ := hrel
    by_cases hkl : k < o.length
    · have hkz : (k : Int) < (o.length : Int) := by omega
      have hx : o[k]? = some (o[k]'hkl) := List.getElem?_eq_getElem hkl
      generalize o[k]'hkl = x at hx
      obtain ⟨b, off, rfl, hb, e3, e4⟩ := HO'.out k x hx
      have d3 := (hbw.cell (p := ⟨b, off + k, none⟩) hb).trans e3
      have l1 : b < wr.heap.size := Nat.lt_of_lt_of_le hb hbw.size
      have l2 := hmap.lt
      have hnone : numK o k x = none := by
        unfold numK
        rw [if_neg]
        intro hm
        obtain ⟨j, hj, e⟩ := List.mem_iff_getElem.1 hm
        rw [List.length_take] at hj
        rw [List.getElem_take] at e
        obtain ⟨hk2, e2⟩ := List.getElem?_eq_some_iff.1 hx
        have := (List.nodup_iff_pairwise_ne.1 hn)
        have h2 := List.pairwise_iff_getElem.1 this j k (by omega) hk2 (by omega)
        exact h2 (e.trans e2.symm)
      have q1 : (Instr.lookup 52 (.map (some W.heap.size)) (.string ⟨x.toArray⟩) true).run Tryz.prog wr = .ok (.tuple #[.int .i64 0, .bool false]) wr := by
        rw [hmap.lookOk (t := 52) t1 t4 t10 (v4 wr) e4, hnone]; rfl
      obtain ⟨w2, hput, hm2, hg2⟩ := hmap.put (t := 52) t1 t4 t10 (by unfold maxLen; omega) e4 (x := (k : Int)) (by simp [Lit.wf, IntKind.min, IntKind.max, IntKind.signed, IntKind.bits]; omega)
      have HX : Hid (o[k]? = some x ∧ Below W.heap.size W wr) := ⟨hx, hbw⟩
      clear hbw hmap e3 hx hnone
      go_wp2
      go_roundg (o.length - (k + 1))
      case measure => omega
      case rel =>
        have hgx : GrX (fun q => some q = some W.heap.size) wr w2 := .ofGrown hg2
        refine ⟨k + 1, by go_num, by omega, by omega, ?_, hgx.below HX.out.2 (fun q hq => by cases hq; exact Nat.le_refl _) HX.out.2.size⟩
        rw [← numK_succ hn HX.out.1]; exact hm2
    · obtain rfl : k = o.length := by omega
      clear hm0
      have HX : Hid (MapI Tryz.prog 9 3 wr W.heap.size o.length (numK o o.length) ∧ Below W.heap.size W wr) := ⟨hmap, hbw⟩
      clear hbw hmap
      go_wp2
      go_loopg [37] l.length (fun gg s37 wr2 => ∃ i : Nat, s37 = .int .i64 i ∧ i ≤ l.length ∧ l.length ≤ gg + i ∧ MapI Tryz.prog 9 3 wr2 W.heap.size o.length (numK o o.length) ∧ Below W.heap.size W wr2 ∧ (∀ j x, j < i → l[j]? = some x → x.k = 4 ∨ o.idxOf x.l < o.idxOf x.u))
      case atStart => exact ⟨0, rfl, by omega, by omega, HX.out.1, HX.out.2, fun j x h => by omega⟩
      case round =>
        clear HX
        obtain ⟨i, rfl, hi, hgi, hmap, hbw, hpre⟩ := hrel
        by_cases hil : i < l.length
        · have hiz : (i : Int) < (l.length : Int) := by omega
          have hx : l[i]? = some (l[i]'hil) := List.getElem?_eq_getElem hil
          generalize l[i]'hil = x at hx
          obtain ⟨b, off, rfl, hb, e3, e4, e5, e6, e7⟩ := HC'.out i x hx
          have d3 := (hbw.cell (p := ⟨b, off + i * 3, none⟩) hb).trans e3
          have d4 := (hbw.cell (p := ⟨b, off + i * 3 + 1, none⟩) hb).trans e4
          have d5 := (hbw.cell (p := ⟨b, off + i * 3 + 2, none⟩) hb).trans e5
          have l1 : b < wr.heap.size := Nat.lt_of_lt_of_le hb hbw.size
          have hmx := HM.out x (List.mem_of_getElem? hx)
          have hmap2 := hmap.kept (X := fun _ => False) (GrX.alloc wr (.cells #[.int .i64 x.k, .string ⟨x.u.toArray⟩, .string ⟨x.l.toArray⟩] 42)) id
          obtain ⟨na, hna⟩ : ∃ na, na = o.idxOf x.l := ⟨_, rfl⟩
          obtain ⟨nb, hnb⟩ : ∃ nb, nb = o.idxOf x.u := ⟨_, rfl⟩
          have hs : ∀ s ∈ o, (numK o o.length s).isSome = true := fun s hs => by unfold numK; rw [List.take_length, if_pos hs]; rfl
          have q1 : (Instr.lookup 52 (.map (some W.heap.size)) (.string ⟨x.u.toArray⟩) true).run Tryz.prog (wr.alloc (.cells #[.int .i64 x.k, .string ⟨x.u.toArray⟩, .string ⟨x.l.toArray⟩] 42)) = .ok (.tuple #[.int .i64 (nb : Int), .bool true]) (wr.alloc (.cells #[.int .i64 x.k, .string ⟨x.u.toArray⟩, .string ⟨x.l.toArray⟩] 42)) := by
            rw [hmap2.lookOk (t := 52) t1 t4 t10 (v4 _) e6, numK_all hmx.1, hs _ hmx.1, hnb]
          have q2 : (Instr.lookup 52 (.map (some W.heap.size)) (.string ⟨x.l.toArray⟩) true).run Tryz.prog (wr.alloc (.cells #[.int .i64 x.k, .string ⟨x.u.toArray⟩, .string ⟨x.l.toArray⟩] 42)) = .ok (.tuple #[.int .i64 (na : Int), .bool true]) (wr.alloc (.cells #[.int .i64 x.k, .string ⟨x.u.toArray⟩, .string ⟨x.l.toArray⟩] 42)) := by
            rw [hmap2.lookOk (t := 52) t1 t4 t10 (v4 _) e7, numK_all hmx.2, hs _ hmx.2, hna]
          have hbw2 := hbw.alloc hbw.size (.cells #[.int .i64 x.k, .string ⟨x.u.toArray⟩, .string ⟨x.l.toArray⟩] 42)
          have hca : Calls Tryz.prog 21 #[.slice (some ⟨b, off, none⟩) l.length cap, .int .i64 i] (wr.alloc (.cells #[.int .i64 x.k, .string ⟨x.u.toArray⟩, .string ⟨x.l.toArray⟩] 42)) fun e w' => e = .returned (.bool (decide (x.k ≠ 4))) ∧ Below (wr.alloc (.cells #[.int .i64 x.k, .string ⟨x.u.toArray⟩, .string ⟨x.l.toArray⟩] 42)).heap.size (wr.alloc (.cells #[.int .i64 x.k, .string ⟨x.u.toArray⟩, .string ⟨x.l.toArray⟩] 42)) w' := by
            refine Calls.mono ((Tryz.ckArc l hl HK.out hx).2 S _ [.slice (some ⟨b, off, none⟩) l.length cap, .int .i64 i] (fun b j h => Nat.lt_of_lt_of_le (HS.out b j h) hbw2.size) trivial (Reps.cons (HR.out.mono (fun _ _ h => h) fun b j h => hbw2.cell (p := ⟨b, j, none⟩) (HS.out b j h)) (Reps.cons (.int _ _) .nil))) ?_
            rintro e w' ⟨v, rfl, h1, h2⟩
            cases h2
            exact ⟨rfl, h1⟩
          have HI : Hid (MapI Tryz.prog 9 3 (wr.alloc (.cells #[.int .i64 x.k, .string ⟨x.u.toArray⟩, .string ⟨x.l.toArray⟩] 42)) W.heap.size o.length (numK o o.length) ∧ Below W.heap.size W (wr.alloc (.cells #[.int .i64 x.k, .string ⟨x.u.toArray⟩, .string ⟨x.l.toArray⟩] 42)) ∧ (∀ j x, j < i → l[j]? = some x → x.k = 4 ∨ o.idxOf x.l < o.idxOf x.u) ∧ l[i]? = some x ∧ na = o.idxOf x.l ∧ nb = o.idxOf x.u) := ⟨hmap2, hbw2, hpre, hx, hna, hnb⟩
          clear hmap hmap2 hbw hbw2 hpre hx hna hnb hs hmx e3 e4 e5
          by_cases hk4 : x.k = 4
          · have hd4 : decide (x.k ≠ 4) = false := by simp [hk4]
            rw [hd4] at hca
            have HK4 : Hid (x.k = 4) := hk4
            clear hk4 hd4
            go_wp2_with (go_at_call 21; refine Calls.mono hca ?_; rintro e W5 ⟨rfl, hb5⟩; have HB5 : Hid (Below (wr.alloc (.cells #[.int .i64 x.k, .string ⟨x.u.toArray⟩, .string ⟨x.l.toArray⟩] 42)).heap.size (wr.alloc (.cells #[.int .i64 x.k, .string ⟨x.u.toArray⟩, .string ⟨x.l.toArray⟩] 42)) W5) := hb5; clear hb5 hca)
            go_roundg (l.length - (i + 1))
            case measure => omega
            case rel =>
              obtain ⟨h1, h2, h3, h4, _⟩ := HI.out
              refine ⟨i + 1, by go_num, by omega, by omega, h1.kept (GrX.ofBelow (X := fun _ => False) HB5.out) id, h2.trans (HB5.out.mono h2.size), fun j y hj hy => ?_⟩
              by_cases e : j = i
              · subst e; rw [h4] at hy; cases hy; exact .inl HK4.out
              · exact h3 j y (by omega) hy
          · have hd4 : decide (x.k ≠ 4) = true := by simp [hk4]
            rw [hd4] at hca
            have HK4 : Hid (¬x.k = 4) := hk4
            clear hk4 hd4
            by_cases hlt : na < nb
            · have hle : decide ((nb : Int) ≤ (na : Int)) = false := decide_eq_false (by omega)
              go_wp2_with (go_at_call 21; refine Calls.mono hca ?_; rintro e W5 ⟨rfl, hb5⟩; have HB5 : Hid (Below (wr.alloc (.cells #[.int .i64 x.k, .string ⟨x.u.toArray⟩, .string ⟨x.l.toArray⟩] 42)).heap.size (wr.alloc (.cells #[.int .i64 x.k, .string ⟨x.u.toArray⟩, .string ⟨x.l.toArray⟩] 42)) W5) := hb5; clear hb5 hca)
              go_roundg (l.length - (i + 1))
              case measure => omega
              case rel =>
                obtain ⟨h1, h2, h3, h4, h5, h6⟩ := HI.out
                refine ⟨i + 1, by go_num, by omega, by omega, h1.kept (GrX.ofBelow (X := fun _ => False) HB5.out) id, h2.trans (HB5.out.mono h2.size), fun j y hj hy => ?_⟩
                by_cases e : j = i
                · subst e; rw [h4] at hy; cases hy; exact .inr (by omega)
                · exact h3 j y (by omega) hy
            · have hle : decide ((nb : Int) ≤ (na : Int)) = true := decide_eq_true (by omega)
              go_wp2_with (go_at_call 21; refine Calls.mono hca ?_; rintro e W5 ⟨rfl, hb5⟩; have HB5 : Hid (Below (wr.alloc (.cells #[.int .i64 x.k, .string ⟨x.u.toArray⟩, .string ⟨x.l.toArray⟩] 42)).heap.size (wr.alloc (.cells #[.int .i64 x.k, .string ⟨x.u.toArray⟩, .string ⟨x.l.toArray⟩] 42)) W5) := hb5; clear hb5 hca)
              go_ret
              obtain ⟨h1, h2, h3, h4, h5, h6⟩ := HI.out
              refine ⟨_, rfl, h2.trans (HB5.out.mono h2.size), ?_⟩
              rw [keptB_no h4 (by rintro (e | e); exact HK4.out e; omega)]
              exact .bool _
        · obtain rfl : i = l.length := by omega
          have HP : Hid (keptB l o = true ∧ Below W.heap.size W wr) := by
            refine ⟨List.all_eq_true.2 fun x hx => ?_, hbw⟩
            obtain ⟨j, hj⟩ := List.getElem?_of_mem hx
            exact decide_eq_true (hpre j x (List.getElem?_eq_some_iff.1 hj).1 hj)
          clear hpre hmap hbw
          go_wp2
          go_ret
          refine ⟨_, rfl, HP.out.2, ?_⟩
          rw [HP.out.1]
          exact .bool _
end Go.Proofs

/-
  SUCCESSION: cycle, in the plain walk. Own work.
-/
namespace Go.Tp
open Go Go.Pi
def cycR (n : Nat) (arcs : List Ar) : D := match cycF n arcs with
  | none => .sl 0 [.un]
  | some c => .sl c.length (ints .i64 c)
end Go.Tp
namespace Go.Proofs
open Go Go.Pi Go.RowKit Go.Tp Go.Lib
set_option maxRecDepth 100000 in
set_option maxHeartbeats 16000000 in
theorem Tryz.scycle (us : List (List UInt8)) (arcs : List Ar) (hu : us.length ≤ 60) (hl : arcs.length ≤ 200) (ha : ∀ x ∈ arcs, ArOk us.length x ∧ x.i ≤ 200) :
    Con Tryz.prog Tryz.L 17 [gD us arcs] (cycR us.length arcs) := by
  have mixed : Tryz.prog.follows .mixedOrders = true := by kernel_rfl
  have t2 := Tryz.underlying26; have a2 := Tryz.isAgg26; have z2 := Tryz.sizeOf26; have v2 := Tryz.zeroValue26; have u2 := run_underlying Tryz.underlying26
  have t3 := Tryz.underlying4; have a3 := Tryz.isAgg4; have z3 := Tryz.sizeOf4; have v3 := Tryz.zeroValue4; have u3 := run_underlying Tryz.underlying4
  have t4 := Tryz.underlying3; have a4 := Tryz.isAgg3; have z4 := Tryz.sizeOf3; have v4 := Tryz.zeroValue3; have u4 := run_underlying Tryz.underlying3
  have t6 := Tryz.underlying77
  have t7 := Tryz.underlying79; have a7 := Tryz.isAgg79; have z7 := Tryz.sizeOf79; have v7 := Tryz.zeroValue79; have u7 := run_underlying Tryz.underlying79
  have t8 := Tryz.underlying74; have a8 := Tryz.isAgg74
  have t9 := Tryz.underlying75; have a9 := Tryz.isAgg75
  have t11 := Tryz.underlying44
  have hip : (Tryz.prog.info? 3).map (fun i => (i.zero, i.size, i.bytes)) = some (some (.int .i64 0), 1, 8) := by kernel_rfl
  obtain ⟨ip, hip1, hip2, hip3, hip4⟩ := info_parts hip
  have ha' : ∀ x ∈ arcs, ArOk us.length x := fun x hx => (ha x hx).1
  refine ⟨⟨by kernel_rfl, by unfold cycR; split <;> rfl⟩, fun S W vs hS hL hrep => ?_⟩
  obtain ⟨va, r1, rfl, hra, t1'⟩ := hrep.uncons
  obtain rfl : r1 = [] := List.length_eq_zero_iff.1 t1'.1.symm
  clear t1' hrep
  obtain ⟨pb, poff, vn, vm, vA, vx, rfl, s0, _, _, e2, e3, _, hrA, hrx⟩ := g_cells hra
  obtain ⟨adA, capA, rfl, HA0⟩ := ars_cells hrA
  obtain ⟨adx, capx, rfl, HX0⟩ := nx_cells hrx
  have HAr : Hid (∀ k x, arcs[k]? = some x → ∃ b2 off2, adA = some ⟨b2, off2, none⟩ ∧ b2 < W.heap.size ∧ W.cell? ⟨b2, off2 + k * 3, none⟩ = some (.int .i64 x.i) ∧ W.cell? ⟨b2, off2 + k * 3 + 1, none⟩ = some (.int .i64 x.a) ∧ W.cell? ⟨b2, off2 + k * 3 + 2, none⟩ = some (.int .i64 x.b)) := by
    intro k x hk
    obtain ⟨b2, off2, g1, g2, g3⟩ := HA0 k x hk
    exact ⟨b2, off2, g1, hS _ _ g2, g3⟩
  have HX : Hid (∀ j, j < us.length → ∃ b off adj capj, adx = some ⟨b, off, none⟩ ∧ b < W.heap.size ∧ W.cell? ⟨b, off + j, none⟩ = some (.slice adj (nxt arcs j).length capj) ∧ Rep S W (.sl (nxt arcs j).length (arsD (nxt arcs j))) (.slice adj (nxt arcs j).length capj) ∧ ∀ k x, (nxt arcs j)[k]? = some x → ∃ b2 off2, adj = some ⟨b2, off2, none⟩ ∧ b2 < W.heap.size ∧ W.cell? ⟨b2, off2 + k * 3, none⟩ = some (.int .i64 x.i) ∧ W.cell? ⟨b2, off2 + k * 3 + 1, none⟩ = some (.int .i64 x.a) ∧ W.cell? ⟨b2, off2 + k * 3 + 2, none⟩ = some (.int .i64 x.b)) := by
    intro j hj
    obtain ⟨b, off, u, h1, h2, h3, h4⟩ := HX0 j hj
    obtain ⟨adj, capj, rfl, h5⟩ := ars_cells h4
    refine ⟨b, off, adj, capj, h1, hS _ _ h2, h3, h4, fun k x hk => ?_⟩
    obtain ⟨b2, off2, g1, g2, g3⟩ := h5 k x hk
    exact ⟨b2, off2, g1, hS _ _ g2, g3⟩
  have l0 := hS _ _ s0
  have HN : Hid (Rep S W (gD us arcs) (.pointer (some ⟨pb, poff, none⟩))) := hra
  have HSS : Hid (∀ b j, S b j → b < W.heap.size) := hS
  have HAA : Hid (∀ x ∈ arcs, ArOk us.length x ∧ x.i ≤ 200) := ha
  have HA : Hid (∀ x ∈ arcs, ArOk us.length x) := ha'
  clear hra hrA hrx HX0 HA0 s0 ha' ha hS
  show Calls _ _ #[.pointer (some ⟨pb, poff, none⟩)] _ _
  go_enter Tryz.func17, Tryz.ntmps17
  have hn0 := Nat.zero_le arcs.length
  go_wp2
  go_loopg [3, 18] arcs.length (fun gg s3 s18 wr => ∃ (i : Nat) (m : Int), s3 = .int .i64 m ∧ s18 = .int .i64 i ∧ i ≤ arcs.length ∧ arcs.length ≤ gg + i ∧ 0 ≤ m ∧ m ≤ us.length ∧ Below W.heap.size W wr ∧ leastK us.length arcs (arcs.drop i) m = leastK us.length arcs arcs 0)
  case atStart => exact ⟨0, 0, rfl, rfl, by omega, by omega, by omega, by omega, Below.refl _ _, rfl⟩
  case round =>
    obtain ⟨i, m, rfl, rfl, hi, hgi, hm0, hm1, hbw, hlk⟩ := hrel
    by_cases hil : i < arcs.length
    · have hiz : (i : Int) < (arcs.length : Int) := by omega
      have hx : arcs[i]? = some (arcs[i]'hil) := List.getElem?_eq_getElem hil
      generalize arcs[i]'hil = x at hx
      obtain ⟨b2, off2, rfl, lb2, y1, y2, y3⟩ := HAr.out i x hx
      have d5 := (hbw.cell (p := ⟨b2, off2 + i * 3, none⟩) lb2).trans y1
      have d6 := (hbw.cell (p := ⟨b2, off2 + i * 3 + 1, none⟩) lb2).trans y2
      have d7 := (hbw.cell (p := ⟨b2, off2 + i * 3 + 2, none⟩) lb2).trans y3
      have l7 := Nat.lt_of_lt_of_le lb2 hbw.size
      obtain ⟨hxa, hxb⟩ := HA.out x (List.mem_of_getElem? hx)
      have hxbz : (x.b : Int) < (us.length : Int) := by omega
      have hdf := distF_df (above := -1) hxa HA.out
      have hlo := hdf.lo x.b hxb
      have hhi := hdf.hi x.b hxb
      have hdl := hdf.len
      have hd := Tryz.sdcall (w := (wr.alloc (.cells #[.int .i64 x.i, .int .i64 x.a, .int .i64 x.b] 79)).drew) HSS.out HN.out hu hl HAA.out (hbw.alloc hbw.size _).drew (tg := x.a) (-1) hxa
      have hb8 : BoxV (wr.alloc (.cells #[.int .i64 x.i, .int .i64 x.a, .int .i64 x.b] 79)).drew wr.heap.size 79 #[.int .i64 x.i, .int .i64 x.a, .int .i64 x.b] := heap_alloc_new wr _
      have hbz : Below W.heap.size W (wr.alloc (.cells #[.int .i64 x.i, .int .i64 x.a, .int .i64 x.b] 79)).drew := (hbw.alloc hbw.size _).drew
      rw [dropT hx, leastK_cons] at hlk
      generalize hD : distF us.length arcs x.a (-1) = dd at *
      obtain ⟨z, hz⟩ : ∃ z, z = gz dd x.b := ⟨_, rfl⟩
      rw [← hz] at hlo hhi hlk
      have HB8 : Hid (BoxV (wr.alloc (.cells #[.int .i64 x.i, .int .i64 x.a, .int .i64 x.b] 79)).drew wr.heap.size 79 #[.int .i64 x.i, .int .i64 x.a, .int .i64 x.b] ∧ Below W.heap.size W (wr.alloc (.cells #[.int .i64 x.i, .int .i64 x.a, .int .i64 x.b] 79)).drew ∧ z = gz dd x.b ∧ dd.length = us.length) := ⟨hb8, hbz, hz, hdl⟩
      have HLK : Hid (leastK us.length arcs (arcs.drop (i + 1)) (if 0 ≤ z ∧ (m = 0 ∨ z + 1 < m) then z + 1 else m) = leastK us.length arcs arcs 0) := hlk
      clear hb8 hbz hz hlk hdf hdl hD hbw y1 y2 y3 hx
      have e1 : IntKind.i64.wrap (z + 1) = z + 1 := by rw [IntKind.wrap_i64]; omega
      go_wp2_with fail
      go_region_with
        ((go_at_call 29; refine Calls.mono hd ?_; rintro e W5 ⟨g5, c5, rfl, hb5, ho5⟩; have k0 := HB8.out.1.kept (GrX.ofBelow (X := fun _ => False) hb5) id; have k1 := k0.cell (j := 1) rfl; have k2 := k0.cell (j := 2) rfl; have k3 : W5.cell? ⟨g5, x.b, none⟩ = some (.int .i64 z) := (by rw [ho5.cellAt x.b (by omega), List.getElem?_map, List.getElem?_eq_getElem (by rw [HB8.out.2.2.2]; exact hxb), Option.map_some, getD_gz' (by rw [HB8.out.2.2.2]; exact hxb), HB8.out.2.2.1]); have HB5 : Hid (Below W.heap.size W W5) := HB8.out.2.1.trans (hb5.mono HB8.out.2.1.size); clear hb5 ho5 k0 hd))
      all_goals
        clear d5 d6 d7
        by_cases hz0 : 0 ≤ z
        · have hz0d : decide (z ≥ 0) = true := decide_eq_true hz0
          by_cases hmz : m = 0
          · subst hmz
            go_wp2
            go_roundg (arcs.length - (i + 1))
            case measure => omega
            case rel =>
              refine ⟨i + 1, z + 1, rfl, by go_num, by omega, by omega, by omega, by omega, HB5.out, ?_⟩
              have := HLK.out
              first | rwa [if_pos (by omega)] at this | simpa [hz0] using this
          · have hmzb : (m == 0) = false := by simpa using hmz
            by_cases hlt : z + 1 < m
            · have hltd : decide (z + 1 < m) = true := decide_eq_true hlt
              go_wp2
              go_roundg (arcs.length - (i + 1))
              case measure => omega
              case rel =>
                refine ⟨i + 1, z + 1, rfl, by go_num, by omega, by omega, by omega, by omega, HB5.out, ?_⟩
                have := HLK.out
                first | rwa [if_pos (by omega)] at this | simpa [hz0] using this
            · have hltd : decide (z + 1 < m) = false := decide_eq_false hlt
              go_wp2
              go_roundg (arcs.length - (i + 1))
              case measure => omega
              case rel =>
                refine ⟨i + 1, m, rfl, by go_num, by omega, by omega, by omega, by omega, HB5.out, ?_⟩
                have := HLK.out
                rwa [if_neg (by omega)] at this
        · have hz0d : decide (z ≥ 0) = false := decide_eq_false (by omega)
          go_wp2
          go_roundg (arcs.length - (i + 1))
          case measure => omega
          case rel =>
            refine ⟨i + 1, m, rfl, by go_num, by omega, by omega, by omega, by omega, HB5.out, ?_⟩
            have := HLK.out
            rwa [if_neg (by omega)] at this
    · obtain rfl : i = arcs.length := by omega
      rw [List.drop_length] at hlk
      have HM : Hid (m = leastK us.length arcs arcs 0) := hlk
      have d2 := (hbw.cell (p := ⟨pb, poff + 2, none⟩) l0).trans e2
      have l1 := Nat.lt_of_lt_of_le l0 hbw.size
      have HBW : Hid (Below W.heap.size W wr) := hbw
      clear hlk hbw
      go_wp2
      go_loopg [50] arcs.length (fun gg s50 wr2 => ∃ i : Nat, s50 = .int .i64 i ∧ i ≤ arcs.length ∧ arcs.length ≤ gg + i ∧ Below W.heap.size W wr2 ∧ arcs.find? (hitK us.length arcs m) = (arcs.drop i).find? (hitK us.length arcs m))
      case atStart => exact ⟨0, rfl, by omega, by omega, HBW.out, rfl⟩
      case round =>
        clear HBW d2
        obtain ⟨i, rfl, hi, hgi, hbw, hfd⟩ := hrel
        by_cases hil : i < arcs.length
        · have hiz : (i : Int) < (arcs.length : Int) := by omega
          have hx : arcs[i]? = some (arcs[i]'hil) := List.getElem?_eq_getElem hil
          generalize arcs[i]'hil = x at hx
          obtain ⟨b2, off2, rfl, lb2, y1, y2, y3⟩ := HAr.out i x hx
          have d5 := (hbw.cell (p := ⟨b2, off2 + i * 3, none⟩) lb2).trans y1
          have d6 := (hbw.cell (p := ⟨b2, off2 + i * 3 + 1, none⟩) lb2).trans y2
          have d7 := (hbw.cell (p := ⟨b2, off2 + i * 3 + 2, none⟩) lb2).trans y3
          have l7 := Nat.lt_of_lt_of_le lb2 hbw.size
          obtain ⟨hxa, hxb⟩ := HA.out x (List.mem_of_getElem? hx)
          have hxbz : (x.b : Int) < (us.length : Int) := by omega
          have hdf := distF_df (above := (x.i : Int)) hxa HA.out
          have hlo := hdf.lo x.b hxb
          have hhi := hdf.hi x.b hxb
          have hdl := hdf.len
          have hd := Tryz.sdcall (w := wr.alloc (.cells #[.int .i64 x.i, .int .i64 x.a, .int .i64 x.b] 79)) HSS.out HN.out hu hl HAA.out (hbw.alloc hbw.size _) (tg := x.a) (x.i : Int) hxa
          have hb8 : BoxV (wr.alloc (.cells #[.int .i64 x.i, .int .i64 x.a, .int .i64 x.b] 79)) wr.heap.size 79 #[.int .i64 x.i, .int .i64 x.a, .int .i64 x.b] := heap_alloc_new wr _
          have hbz : Below W.heap.size W (wr.alloc (.cells #[.int .i64 x.i, .int .i64 x.a, .int .i64 x.b] 79)) := hbw.alloc hbw.size _
          rw [dropT hx, List.find?_cons] at hfd
          have hhk : hitK us.length arcs m x = (decide (m ≠ 0) && decide (gz (distF us.length arcs x.a x.i) x.b = m - 1)) := rfl
          obtain ⟨dd, hD⟩ : ∃ dd, dd = distF us.length arcs x.a (x.i : Int) := ⟨_, rfl⟩
          rw [← hD] at hd hlo hhi hdl hhk hdf
          obtain ⟨z, hz⟩ : ∃ z, z = gz dd x.b := ⟨_, rfl⟩
          rw [← hz] at hlo hhi hhk
          have HB8 : Hid (BoxV (wr.alloc (.cells #[.int .i64 x.i, .int .i64 x.a, .int .i64 x.b] 79)) wr.heap.size 79 #[.int .i64 x.i, .int .i64 x.a, .int .i64 x.b] ∧ Below W.heap.size W (wr.alloc (.cells #[.int .i64 x.i, .int .i64 x.a, .int .i64 x.b] 79)) ∧ z = gz dd x.b ∧ dd.length = us.length ∧ DF arcs us.length x.a x.i dd ∧ arcs[i]? = some x ∧ dd = distF us.length arcs x.a x.i) := ⟨hb8, hbz, hz, hdl, hdf, hx, hD⟩
          have HFD : Hid (arcs.find? (hitK us.length arcs m) = (match hitK us.length arcs m x with | true => some x | false => (arcs.drop (i + 1)).find? (hitK us.length arcs m)) ∧ hitK us.length arcs m x = (decide (m ≠ 0) && decide (z = m - 1))) := ⟨hfd, hhk⟩
          clear hb8 hbz hz hfd hhk hdf hdl hD hbw y1 y2 y3 hx
          have e1 : IntKind.i64.wrap (m - 1) = m - 1 := by rw [IntKind.wrap_i64]; omega
          by_cases hm00 : m = 0
          · subst hm00
            have HF2 : Hid (arcs.find? (hitK us.length arcs 0) = (arcs.drop (i + 1)).find? (hitK us.length arcs 0)) := by
              have := HFD.out.1
              rw [HFD.out.2, decide_eq_false (by simp), Bool.false_and] at this
              exact this
            go_wp2_with (go_at_call 29; refine Calls.mono hd ?_; rintro e W5 ⟨g5, c5, rfl, hb5, ho5⟩; have k0 := HB8.out.1.kept (GrX.ofBelow (X := fun _ => False) hb5) id; have k1 := k0.cell (j := 1) rfl; have k2 := k0.cell (j := 2) rfl; have k4 := k0.cell (j := 0) rfl; have l3 := k0.lt; have l5 := (ho5.lt g5 rfl).2; have k3 : W5.cell? ⟨g5, x.b, none⟩ = some (.int .i64 z) := (by rw [ho5.cellAt x.b (by omega), List.getElem?_map, List.getElem?_eq_getElem (by rw [HB8.out.2.2.2.1]; exact hxb), Option.map_some, getD_gz' (by rw [HB8.out.2.2.2.1]; exact hxb), HB8.out.2.2.1]); have HB5 : Hid (Below W.heap.size W W5 ∧ BoxV W5 wr.heap.size 79 #[.int .i64 x.i, .int .i64 x.a, .int .i64 x.b] ∧ W5.ownsRow W.heap.size 3 1 (.slice (some ⟨g5, 0, none⟩) us.length c5) us.length (intsV dd)) := ⟨HB8.out.2.1.trans (hb5.mono HB8.out.2.1.size), k0, own_base ho5 HB8.out.2.1.size⟩; clear hb5 ho5 k0 hd)
            go_roundg (arcs.length - (i + 1))
            case measure => omega
            case rel => exact ⟨i + 1, by go_num, by omega, by omega, HB5.out.1.alloc HB5.out.1.size _, HF2.out⟩
          · have hmb : (m == 0) = false := by simpa using hm00
            by_cases hzm : z = m - 1
            · have hzb : (z != m - 1) = false := by simpa using hzm
              have hzc : decide (z ≠ m - 1) = false := by simpa using hzm
              have HCF : Hid (cycF us.length arcs = some ((x.i : Int) :: pathK arcs dd x.a x.i (us.length + 1) x.b)) := by
                have h1 := HFD.out.1
                rw [HFD.out.2, decide_eq_true hm00, decide_eq_true hzm] at h1
                show cycF us.length arcs = _
                unfold cycF
                rw [← HM.out, h1]
                show some ((x.i : Int) :: pathK arcs (distF us.length arcs x.a x.i) x.a x.i (us.length + 1) x.b) = _
                rw [← HB8.out.2.2.2.2.2.2]
              go_wp2_with (go_at_call 29; refine Calls.mono hd ?_; rintro e W5 ⟨g5, c5, rfl, hb5, ho5⟩; have k0 := HB8.out.1.kept (GrX.ofBelow (X := fun _ => False) hb5) id; have k1 := k0.cell (j := 1) rfl; have k2 := k0.cell (j := 2) rfl; have k4 := k0.cell (j := 0) rfl; have l3 := k0.lt; have l5 := (ho5.lt g5 rfl).2; have k3 : W5.cell? ⟨g5, x.b, none⟩ = some (.int .i64 z) := (by rw [ho5.cellAt x.b (by omega), List.getElem?_map, List.getElem?_eq_getElem (by rw [HB8.out.2.2.2.1]; exact hxb), Option.map_some, getD_gz' (by rw [HB8.out.2.2.2.1]; exact hxb), HB8.out.2.2.1]); have HB5 : Hid (Below W.heap.size W W5 ∧ BoxV W5 wr.heap.size 79 #[.int .i64 x.i, .int .i64 x.a, .int .i64 x.b] ∧ W5.ownsRow W.heap.size 3 1 (.slice (some ⟨g5, 0, none⟩) us.length c5) us.length (intsV dd)) := ⟨HB8.out.2.1.trans (hb5.mono HB8.out.2.1.size), k0, own_base ho5 HB8.out.2.1.size⟩; clear hb5 ho5 k0 hd)
              obtain ⟨B1, hB1⟩ : ∃ B1, B1 = wr.heap.size := ⟨_, rfl⟩
              have hCy : Hid (CyI 79 26 3 W (((W5.alloc (.cells #[.slice (some ⟨g5, 0, none⟩) us.length c5] 26)).alloc (.cells #[.int .i64 x.i] 3)).alloc (.cells #[.int .i64 x.b] 3)) wr.heap.size W5.heap.size g5 c5 (W5.heap.size + 1 + 1) us.length x dd x.b (.slice (some ⟨W5.heap.size + 1, 0, none⟩) 1 1) [(x.i : Int)]) := by
                obtain ⟨q1, q2, q3⟩ := HB5.out
                have n1 := heap_alloc_new W5 (.cells #[.slice (some ⟨g5, 0, none⟩) us.length c5] 26)
                have n2 := heap_alloc_new (W5.alloc (.cells #[.slice (some ⟨g5, 0, none⟩) us.length c5] 26)) (.cells #[.int .i64 x.i] 3)
                have n3 := heap_alloc_new ((W5.alloc (.cells #[.slice (some ⟨g5, 0, none⟩) us.length c5] 26)).alloc (.cells #[.int .i64 x.i] 3)) (.cells #[.int .i64 x.b] 3)
                rw [World.size_alloc] at n2 n3
                rw [World.size_alloc] at n3
                have k1 : GrX (fun _ => False) W5 (W5.alloc (.cells #[.slice (some ⟨g5, 0, none⟩) us.length c5] 26)) := .alloc _ _
                have k2 : GrX (fun _ => False) (W5.alloc (.cells #[.slice (some ⟨g5, 0, none⟩) us.length c5] 26)) ((W5.alloc (.cells #[.slice (some ⟨g5, 0, none⟩) us.length c5] 26)).alloc (.cells #[.int .i64 x.i] 3)) := .alloc _ _
                have k3 : GrX (fun _ => False) ((W5.alloc (.cells #[.slice (some ⟨g5, 0, none⟩) us.length c5] 26)).alloc (.cells #[.int .i64 x.i] 3)) (((W5.alloc (.cells #[.slice (some ⟨g5, 0, none⟩) us.length c5] 26)).alloc (.cells #[.int .i64 x.i] 3)).alloc (.cells #[.int .i64 x.b] 3)) := .alloc _ _
                have kk := (k1.trans k2 fun _ e => e.elim).trans k3 fun _ e => e.elim
                have k23 := k2.trans k3 fun _ e => e.elim
                refine ⟨kk.below q1 (fun _ e => e.elim) q1.size, q2.kept kk id, BoxV.kept (show BoxV _ _ _ _ from n1) k23 id, kk.own q3 fun _ _ e => e, n3, ⟨rfl, .inr ⟨W5.heap.size + 1, 1, #[.int .i64 x.i], rfl, Nat.le_trans q1.size (Nat.le_succ _), (k3.block _ (by simp) id).trans n2, Nat.le_refl _, by decide, rfl, rfl⟩⟩, ?_, ?_, ?_, Nat.le_trans q1.size (Nat.le_trans (Nat.le_succ _) (Nat.le_succ _))⟩
                · intro e
                  have : W5.heap.size + 1 = g5 := by simpa [Value.ownBlock] using e
                  omega
                · intro e
                  simp [Value.ownBlock] at e
                · omega
              rw [← hB1] at hCy ⊢
              clear HB5 k1 k2 k3 k4 hB1
              have hz0 : 0 ≤ z := by omega
              go_loopg [10, 11] us.length (fun gg s10 s11 wr3 => ∃ (v bV : Nat) (vo : Value) (o : List Int), s10 = vo ∧ s11 = .pointer (some ⟨bV, 0, none⟩) ∧ CyI 79 26 3 W wr3 B1 W5.heap.size g5 c5 bV us.length x dd v vo o ∧ v < us.length ∧ 0 ≤ gz dd v ∧ gz dd v ≤ gg ∧ o.length ≤ 70 - (gz dd v).toNat ∧ o ++ pathK arcs dd x.a x.i (us.length + 1) v = (x.i : Int) :: pathK arcs dd x.a x.i (us.length + 1) x.b)
              case atStart =>
                have e9 := HB8.out.2.2.1
                exact ⟨x.b, _, _, _, rfl, rfl, hCy.out, hxb, by rw [← e9]; exact hz0, by rw [← e9]; omega, by rw [← e9, List.length_singleton]; omega, rfl⟩
              case round =>
                clear hCy
                obtain ⟨v, bV, vo, o, hs10, rfl, hI, hv, hv0, hvg, hol, hpth⟩ := hrel
                obtain ⟨ao, co, rfl⟩ := own_shape1 hI.out
                subst hs10
                have cV := hI.bv.cell (j := 0) rfl
                have cA := hI.ba.cell (j := 1) rfl
                have lV := hI.bv.lt
                have lA := hI.ba.lt
                by_cases hva : v = x.a
                · have hvab : ((v : Int) != (x.a : Int)) = false := by simp [hva]
                  have hvaz : (v : Int) = (x.a : Int) := by omega
                  have hp : o = (x.i : Int) :: pathK arcs dd x.a x.i (us.length + 1) x.b := by
                    rw [← hpth]
                    unfold pathK
                    rw [if_pos hva, List.append_nil]
                  have HO : Hid (cycF us.length arcs = some o ∧ CyI 79 26 3 W wr B1 W5.heap.size g5 c5 bV us.length x dd v (.slice ao o.length co) o) := ⟨by rw [hp]; exact HCF.out, hI⟩
                  clear hI hpth hp hol hv0 hvg
                  go_wp2
                  go_ret
                  refine ⟨_, rfl, HO.out.2.bel, ?_⟩
                  unfold cycR
                  rw [HO.out.1]
                  exact rep_ints HO.out.2.out fun b j h1 h2 => .inr ⟨h1, h2⟩
                · have hvab : ((v : Int) != (x.a : Int)) = true := by simp; omega
                  have hvaz : ¬(v : Int) = (x.a : Int) := by omega
                  obtain ⟨b, hfb, hb, hbi, hba, hbe, hb0⟩ := next_some HB8.out.2.2.2.2.1 hv hva hv0
                  obtain ⟨j, hj1, hj2⟩ := ixA_find 0 hfb
                  rw [Nat.zero_add] at hj1
                  obtain ⟨bx, ox, adj, capj, rfl, lx, ex, hRr, HR0⟩ := HX.out v hv
                  obtain ⟨b9, off9, rfl, lb9, w1, w2, w3⟩ := HR0 j b hj2
                  have hjl := (List.getElem?_eq_some_iff.1 hj2).1
                  have hjz : (j : Int) < ((nxt arcs v).length : Int) := by
                    have : j < (nxt arcs v).length := hjl
                    omega
                  have hvz : (v : Int) < (us.length : Int) := by omega
                  have hbb := (HA.out b hb).2
                  have hsz := hI.bel.size
                  have c3 := (hI.bel.cell (p := ⟨pb, poff + 3, none⟩) l0).trans e3
                  have c4 := (hI.bel.cell (p := ⟨bx, ox + v, none⟩) lx).trans ex
                  have l3' := Nat.lt_of_lt_of_le l0 hsz
                  have l4' := Nat.lt_of_lt_of_le lx hsz
                  have l9' := Nat.lt_of_lt_of_le lb9 hsz
                  have hId := hI.kept (gr_drew wr)
                  have hrl : (nxt arcs v).length ≤ 200 := Nat.le_trans (List.length_filter_le ..) hl
                  have hix := Tryz.sixcall (w := wr.drew) HSS.out hRr hu hrl (fun y hy => HA.out y (List.mem_filter.1 hy).1) hId.bel hId.ba hId.bd hId.bv hId.row HB8.out.2.2.2.1 hv (fun k hk => ⟨HB8.out.2.2.2.2.1.lo k hk, HB8.out.2.2.2.2.1.hi k hk⟩)
                  have hj1' : ixA (isNx dd x.i v) (nxt arcs v) 0 = (j : Int) := hj1
                  rw [hj1'] at hix
                  have HI : Hid (CyI 79 26 3 W wr.drew B1 W5.heap.size g5 c5 bV us.length x dd v (.slice ao o.length co) o) := hId
                  have HP : Hid ((o ++ [(b.i : Int)]) ++ pathK arcs dd x.a x.i (us.length + 1) b.b = (x.i : Int) :: pathK arcs dd x.a x.i (us.length + 1) x.b) := by
                    show _ = _
                    rw [← hpth]
                    conv => rhs; unfold pathK
                    rw [if_neg hva, hfb]
                    dsimp only
                    rw [List.append_assoc, List.singleton_append]
                    have hd9 := HB8.out.2.2.2.2.1.hi b.b hbb
                    rw [pathK_more HB8.out.2.2.2.2.1 HA.out (us.length + 1) us.length b.b hbb hb0 (by omega) (by omega)]
                  have HF9 : Hid (W.cell? ⟨pb, poff + 3, none⟩ = some (.slice (some ⟨bx, ox, none⟩) us.length capx) ∧ W.cell? ⟨bx, ox + v, none⟩ = some (.slice (some ⟨b9, off9, none⟩) (nxt arcs v).length capj) ∧ W.cell? ⟨b9, off9 + j * 3, none⟩ = some (.int .i64 b.i) ∧ W.cell? ⟨b9, off9 + j * 3 + 2, none⟩ = some (.int .i64 b.b)) := ⟨e3, ex, w1, w3⟩
                  have hol2 : o.length ≤ 70 := by omega
                  have hbd9 : gz dd b.b < gz dd v ∧ gz dd v ≤ gk := by omega
                  have HOL : Hid (o.length + 1 ≤ 70 - (gz dd b.b).toNat ∧ 0 ≤ gz dd b.b) := by
                    have := HB8.out.2.2.2.2.1.hi v hv
                    show _ ∧ _
                    omega
                  clear hI hId hpth hfb hj1 hj1' hj2 HR0 w1 w2 w3 hRr hjl hol hbe hbi hba
                  go_wp2_with fail
                  go_region_held3 (fun w' => w'.cell? ⟨pb, poff + 3, none⟩ = some (.slice (some ⟨bx, ox, none⟩) us.length capx) ∧ w'.cell? ⟨bV, 0, none⟩ = some (.int .i64 v) ∧ w'.cell? ⟨bx, ox + v, none⟩ = some (.slice (some ⟨b9, off9, none⟩) (nxt arcs v).length capj)) (go_keep)
                    ((go_at_call 30; refine Calls.mono hix ?_; rintro e W7 ⟨rfl, hb7⟩; have hI7 := HI.out.kept (GrX.ofBelow hb7); have r1 := (hI7.bel.cell (p := ⟨pb, poff + 3, none⟩) l0).trans HF9.out.1; have r2 := hI7.bv.cell (j := 0) rfl; have r3 := (hI7.bel.cell (p := ⟨bx, ox + v, none⟩) lx).trans HF9.out.2.1; have HI7 : Hid (CyI 79 26 3 W W7 B1 W5.heap.size g5 c5 bV us.length x dd v (.slice ao o.length co) o) := hI7; clear hI7 hix hb7))
                  all_goals clear c3 c4 cV cA r1 r2 r3
                  go_wp2_with fail
                  have r1 := (HI7.out.bel.cell (p := ⟨pb, poff + 3, none⟩) l0).trans HF9.out.1
                  have r2 : W7.cell? ⟨bV, 0, none⟩ = some (.int .i64 v) := HI7.out.bv.cell (j := 0) rfl
                  have r3 := (HI7.out.bel.cell (p := ⟨bx, ox + v, none⟩) lx).trans HF9.out.2.1
                  have r4 := (HI7.out.bel.cell (p := ⟨b9, off9 + j * 3, none⟩) lb9).trans HF9.out.2.2.1
                  have s1 := Nat.lt_of_lt_of_le l0 HI7.out.bel.size
                  have s2 := HI7.out.bv.lt
                  have s6 := HI7.out.bel.size
                  have s3 := Nat.lt_of_lt_of_le lx HI7.out.bel.size
                  have s4 := Nat.lt_of_lt_of_le lb9 HI7.out.bel.size
                  go_region_held3 (fun w' => w'.cell? ⟨pb, poff + 3, none⟩ = some (.slice (some ⟨bx, ox, none⟩) us.length capx) ∧ w'.cell? ⟨bV, 0, none⟩ = some (.int .i64 v) ∧ w'.cell? ⟨bx, ox + v, none⟩ = some (.slice (some ⟨b9, off9, none⟩) (nxt arcs v).length capj) ∧ w'.cell? ⟨b9, off9 + j * 3, none⟩ = some (.int .i64 b.i)) (go_keep)
                    ((refine step_append_lies _ rfl (.tmp 90) (.tmp 102) 26 rfl W.heap.size 3 ip (.int .i64 0) 1 8 Tryz.underlying26 hip1 hip2 hip3 hip4 rfl (by decide) (.slice ao o.length co) o.length (o.map (Value.int .i64)) (by simp [Act.eval, Act.put]) (own_gen (o := .cells #[.int .i64 b.i] 3) HI7.out.out rfl) ⟨W7.heap.size, 0, none⟩ 1 1 [.int .i64 b.i] (by simp [Act.eval, Act.put]) rfl (news_gen W7 _ #[.int .i64 b.i] 3 _ rfl rfl) (by simp [Value.oneCell']) (by decide) (by unfold maxLen; omega) (by omega) (by simp; omega) _ rfl ?_; intro g8 c8 W8 ho8 hg8 hl8 hlt8; have hI8 := CyI.outA (ob := .cells #[.int .i64 b.i] 3) (x := (b.i : Int)) HI7.out (by decide) (by decide) (by rfl) (by rfl) (by rfl) (by rfl) hg8 ho8 hl8; have m1 := (hI8.bel.cell (p := ⟨pb, poff + 3, none⟩) l0).trans HF9.out.1; have m2 : W8.cell? ⟨bV, 0, none⟩ = some (.int .i64 v) := hI8.bv.cell (j := 0) rfl; have m3 := (hI8.bel.cell (p := ⟨bx, ox + v, none⟩) lx).trans HF9.out.2.1; have m4 := (hI8.bel.cell (p := ⟨b9, off9 + j * 3, none⟩) lb9).trans HF9.out.2.2.1; have m5 := (hI8.bel.cell (p := ⟨b9, off9 + j * 3 + 2, none⟩) lb9).trans HF9.out.2.2.2; have m6 := hI8.bv.frozen 0; have HI8 : Hid (CyI 79 26 3 W W8 B1 W5.heap.size g5 c5 bV us.length x dd v (.slice (some ⟨g8, 0, none⟩) (o.length + 1) c8) (o ++ [(b.i : Int)])) := hI8; have s5 := hI8.bv.lt; clear hI8 ho8 hg8 hl8))
                  all_goals clear r1 r2 r3 r4 s1 s2 s3 s4 s6
                  go_wp2_with fail
                  go_big_region_o
                  all_goals go_wp2_with fail
                  go_roundg ((gz dd b.b).toNat)
                  case measure => omega
                  case rel =>
                    have hI9 := (((HI8.out.putV (by decide) (by decide) b.b).newV).kept (gr_drew _))
                    rw [World.size_setCell] at hI9
                    have h9 := HOL.out
                    exact ⟨b.b, W8.heap.size, _, _, rfl, rfl, hI9, hbb, h9.2, by omega, by rw [List.length_append, List.length_singleton]; exact h9.1, HP.out⟩
            · have hzb : (z != m - 1) = true := by simpa using hzm
              have hzc : decide (z ≠ m - 1) = true := by simpa using hzm
              have HF2 : Hid (arcs.find? (hitK us.length arcs m) = (arcs.drop (i + 1)).find? (hitK us.length arcs m)) := by
                have := HFD.out.1
                rw [HFD.out.2, decide_eq_false hzm, Bool.and_false] at this
                exact this
              go_wp2_with (go_at_call 29; refine Calls.mono hd ?_; rintro e W5 ⟨g5, c5, rfl, hb5, ho5⟩; have k0 := HB8.out.1.kept (GrX.ofBelow (X := fun _ => False) hb5) id; have k1 := k0.cell (j := 1) rfl; have k2 := k0.cell (j := 2) rfl; have k4 := k0.cell (j := 0) rfl; have l3 := k0.lt; have l5 := (ho5.lt g5 rfl).2; have k3 : W5.cell? ⟨g5, x.b, none⟩ = some (.int .i64 z) := (by rw [ho5.cellAt x.b (by omega), List.getElem?_map, List.getElem?_eq_getElem (by rw [HB8.out.2.2.2.1]; exact hxb), Option.map_some, getD_gz' (by rw [HB8.out.2.2.2.1]; exact hxb), HB8.out.2.2.1]); have HB5 : Hid (Below W.heap.size W W5 ∧ BoxV W5 wr.heap.size 79 #[.int .i64 x.i, .int .i64 x.a, .int .i64 x.b] ∧ W5.ownsRow W.heap.size 3 1 (.slice (some ⟨g5, 0, none⟩) us.length c5) us.length (intsV dd)) := ⟨HB8.out.2.1.trans (hb5.mono HB8.out.2.1.size), k0, own_base ho5 HB8.out.2.1.size⟩; clear hb5 ho5 k0 hd)
              go_roundg (arcs.length - (i + 1))
              case measure => omega
              case rel => exact ⟨i + 1, by go_num, by omega, by omega, HB5.out.1.alloc HB5.out.1.size _, HF2.out⟩
        · obtain rfl : i = arcs.length := by omega
          rw [List.drop_length] at hfd
          have hc : cycF us.length arcs = none := by
            unfold cycF
            rw [← HM.out, hfd]
            rfl
          have HC : Hid (cycF us.length arcs = none ∧ Below W.heap.size W wr) := ⟨hc, hbw⟩
          clear hfd hbw hc
          go_wp2
          go_ret
          refine ⟨_, rfl, HC.out.2, ?_⟩
          unfold cycR
          rw [HC.out.1]
          exact .slN
end Go.Proofs
