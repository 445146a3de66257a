/-
 POLYLINE: Simplify, in the plain walk. Own work.
-/
import Derived.Test.YtkfmblmamoofjaaGreatDoorSh
import Derived.Test.YtkfmblmamoofjaaGreatDoorSg
import Derived.Test.YtkfmblmamoofjaaGreatDoorPj
import Derived.Test.YtkfmblmamoofjaaGreatDoorEf
import Derived.Laws.StructEq
set_option linter.unusedVariables false
set_option linter.unusedSimpArgs false
namespace Go.Proofs
open Go Go.Pi Go.RowKit Go.Shelf Go.Ar Go.Ge

/-- at and least, as the program holds them -/
def atV : Option (Nat × Rat) → Value
 | none => .int .i64 (-1)
 | some q => .int .i64 q.1
def leV (most : Rat) : Option (Nat × Rat) → Value
 | none => .string ⟨(rt most).toArray⟩
 | some q => .string ⟨(rt q.2).toArray⟩

theorem st_cases (st : Option (Nat × Rat)) : (st = none ∧ atV st = .int .i64 (-1)) ∨ (st ≠ none ∧ ∃ j : Nat, atV st = .int .i64 (j : Int)) := by
 cases st with
 | none => exact .inl ⟨rfl, rfl⟩
 | some z => exact .inr ⟨by simp, z.1, rfl⟩
theorem st_cases2 (st : Option (Nat × Rat)) : (st = none ∧ atV st = .int .i64 (-1)) ∨ (∃ (j : Nat) (y : Rat), st = some (j, y) ∧ atV st = .int .i64 (j : Int)) := by
 cases st with
 | none => exact .inl ⟨rfl, rfl⟩
 | some z => exact .inr ⟨z.1, z.2, rfl, rfl⟩
theorem simp_none {q : Rat} {l : List Pt} {k : Nat} (hk : k + 2 = l.length) (h : pick q l k = none) : simp q l.length l = l := by
 obtain ⟨f, hf⟩ : ∃ f, l.length = f + 1 := ⟨k + 1, by omega⟩
 have e : l.length - 2 = k := by omega
 rw [hf, simp, e, h]
theorem simp_some {q : Rat} {l : List Pt} {k j : Nat} {y : Rat} (hk : k + 2 = l.length) (h : pick q l k = some (j, y)) : simp q l.length l = simp q (l.eraseIdx j).length (l.eraseIdx j) := by
 obtain ⟨f, hf⟩ : ∃ f, l.length = f + 1 := ⟨k + 1, by omega⟩
 have e : l.length - 2 = k := by omega
 obtain ⟨h1, h2, _⟩ := pick_spec h
 have e2 : (l.eraseIdx j).length = f := by rw [List.length_eraseIdx_of_lt (by omega)]; omega
 conv => lhs; rw [hf, simp, e, h]
 rw [e2]
theorem rat_tri (a b : Rat) : a < b ∨ a = b ∨ b < a := by grind
/-- the least so far -/
def lvQ (most : Rat) : Option (Nat × Rat) → Rat
 | none => most
 | some q => q.2
theorem rd_abQ (q : Rat) : rd (abQ q) = rd q := rd_abs q
theorem lv_rd {q : Rat} {l : List Pt} (hq : rd q ≤ 2500) (hs : ∀ p ∈ l, Sz 30 p) : ∀ {k : Nat}, k + 2 ≤ l.length → rd (lvQ q (pick q l k)) ≤ 2500
 | 0, _ => hq
 | k + 1, hk => by
   have ih := lv_rd hq hs (k := k) (by omega)
   have hz : ∀ j, j < l.length → Sz 300 (gt l j) := fun j hj => (hs _ (List.mem_of_getElem? (show l[j]? = some (gt l j) by rw [List.getElem?_eq_getElem hj]; simp [gt, List.getD_eq_getElem?_getD, hj]))).more (by decide)
   have h1 : rd (abQ (ar (gt l k) (gt l (k + 1)) (gt l (k + 2)))) ≤ 2500 := by rw [rd_abQ]; exact rd_ar (hz _ (by omega)) (hz _ (by omega)) (hz _ (by omega))
   unfold pick
   cases hp : pick q l k with
   | none =>
     rw [hp] at ih
     simp only
     split
     ·exact h1
     ·exact ih
   | some z =>
     rw [hp] at ih
     obtain ⟨j, y⟩ := z
     simp only
     split
     ·exact h1
     ·exact ih
/-- one point more -/
theorem pick_succ (q : Rat) (l : List Pt) (k : Nat) : pick q l (k + 1) = if (abQ (ar (gt l k) (gt l (k + 1)) (gt l (k + 2))) < lvQ q (pick q l k) ∨ (abQ (ar (gt l k) (gt l (k + 1)) (gt l (k + 2))) = lvQ q (pick q l k) ∧ pick q l k = none)) ∧ good (l.eraseIdx (k + 1)) = true then some (k + 1, abQ (ar (gt l k) (gt l (k + 1)) (gt l (k + 2)))) else pick q l k := by
 conv => lhs; unfold pick
 generalize abQ (ar (gt l k) (gt l (k + 1)) (gt l (k + 2))) = x
 cases hp : pick q l k with
 | none =>
   simp only [lvQ, and_true]
   by_cases h : x ≤ q
   ·have : x < q ∨ x = q := Rat.le_iff_lt_or_eq.1 h
    simp [h, this]
   ·have : ¬(x < q ∨ x = q) := fun h' => h (Rat.le_iff_lt_or_eq.2 h')
    simp [h, this]
 | some z =>
   obtain ⟨j, y⟩ := z
   simp [lvQ]
set_option maxRecDepth 100000 in
set_option maxHeartbeats 4000000 in
theorem Tryz.psimplify (c : List Pt) (q : Rat) (hc : c.length ≤ 8) (hsz : ∀ p ∈ c, Sz 30 p) (hq : rd q ≤ 100) (h0 : 0 ≤ q) (hg : good c = true) : Con Tryz.prog Tryz.L 12 [chn c, .str (rt q)] (.tup [chn (simp q c.length c), .int .i64 0]) := by
 have mixed : Tryz.prog.follows .mixedOrders = true := by kernel_rfl
 have t0 := Tryz.underlying24; have a0 := Tryz.isAgg24; have z0 := Tryz.sizeOf24; have v0 := Tryz.zeroValue24; have u0 := run_underlying Tryz.underlying24
 have t1 := Tryz.underlying36; have a1 := Tryz.isAgg36; have z1 := Tryz.sizeOf36; have v1 := Tryz.zeroValue36; have u1 := run_underlying Tryz.underlying36
 have t3 := Tryz.underlying4; have a3 := Tryz.isAgg4; have z3 := Tryz.sizeOf4; have v3 := Tryz.zeroValue4; have u3 := run_underlying Tryz.underlying4
 have t4 := Tryz.underlying3; have a4 := Tryz.isAgg3; have z4 := Tryz.sizeOf3; have v4 := Tryz.zeroValue3; have u4 := run_underlying Tryz.underlying3
 have t5 := Tryz.underlying26; have a5 := Tryz.isAgg26; have z5 := Tryz.sizeOf26; have v5 := Tryz.zeroValue26; have u5 := run_underlying Tryz.underlying26
 have t6 := Tryz.underlying34; have a6 := Tryz.isAgg34; have z6 := Tryz.sizeOf34; have v6 := Tryz.zeroValue34; have u6 := run_underlying Tryz.underlying34
 have hlq := rt_len q
 refine ⟨⟨by kernel_rfl, rfl⟩, fun S W vs hS hL hrep => ?_⟩
 obtain ⟨vc, r1, rfl, hrc, t1'⟩ := hrep.uncons
 obtain ⟨vq, r2, rfl, hrq, t2'⟩ := t1'.uncons
 have e2 := hrq.str_inv.1
 subst e2
 obtain rfl : r2 = [] := List.length_eq_zero_iff.1 t2'.1.symm
 clear t1' t2' hrep
 have hgood : chkN c false = 0 := by simpa [good] using hg
 have hC0 := (Tryz.pcheckL c (by omega) hsz).2 S W [vc] hS hL (Reps.cons hrc .nil)
 rw [hgood] at hC0
 show Calls _ _ #[vc, .string ⟨(rt q).toArray⟩] _ _
 go_enter Tryz.func12, Tryz.ntmps12
 go_wp2_with (go_at_call 25; refine Calls.mono hC0 ?_; rintro e W1 ⟨v1, rfl, hb1, hr1⟩; obtain rfl : v1 = .int .i64 0 := (by cases hr1; rfl); clear hr1)
 have b01 := hb1
 refine Calls.mono ((Tryz.rcheckQ q (by omega)).2 (fun _ _ => False) W1 [.string ⟨(rt q).toArray⟩] (fun _ _ h => h.elim) (Tryz.hL W W1 hL b01) (Reps.cons (.str _ (by unfold maxLen; omega)) .nil)) ?_
 rintro e W2 ⟨v2, rfl, hb2, hr2⟩
 obtain rfl : v2 = .int .i64 0 := (by cases hr2; rfl)
 clear hr2
 have b02 := b01.trans (hb2.mono b01.size)
 have hnn : ¬q.num < 0 := by have := Rat.num_nonneg.2 h0; omega
 have hsg : decide (q.num < 0) = false := decide_eq_false hnn
 go_wp2_with (go_at_call 23; refine Calls.mono ((Tryz.rsign q (by omega)).2 (fun _ _ => False) W2 [.string ⟨(rt q).toArray⟩] (fun _ _ h => h.elim) (Tryz.hL W W2 hL b02) (Reps.cons (.str _ (by unfold maxLen; omega)) .nil)) ?_; rintro e W3 ⟨v3, rfl, hb3, hr3⟩; obtain rfl : v3 = .int .i64 q.num.sign := (by cases hr3; rfl); clear hr3; have b03 := b02.trans (hb3.mono b02.size))
 have hm3 : ∀ W' : World, Below W.heap.size W W' → Rep S W' (chn c) vc := fun W' h => hrc.mono (fun _ _ z => z) (fun b o z => h.cell (p := ⟨b, o, none⟩) (hS b o z))
 refine Calls.mono ((Tryz.pclone c (by omega)).2 S W3 [vc] (fun b j h => Nat.lt_of_lt_of_le (hS b j h) b03.size) (Tryz.hL W W3 hL b03) (Reps.cons (hm3 W3 b03) .nil)) ?_
 rintro e W4 ⟨v4, rfl, hb4, hr4⟩
 have b04 := b03.trans (hb4.mono b03.size)
 have ho4 := own_base (own_of_res (f := fun p : Pt => rt p.1) (g := fun p : Pt => rt p.2) (by kernel_rfl) hr4) b03.size
 clear hr4 hC0 hb1 hb2 hb3 hb4 b01 b02 b03 hm3 hrc hgood hsg hnn
 go_wp2
 have HS : Hid (∀ p ∈ c, Sz 30 p) := hsz
 have HG : Hid (good c = true) := hg
 clear hsz hg
 go_loopg [7] c.length (fun gg s7 wr => ∃ l : List Pt, l.length ≤ gg ∧ l.length ≤ 8 ∧ Hid ((∀ p ∈ l, Sz 30 p) ∧ good l = true ∧ simp q l.length l = simp q c.length c) ∧ wr.ownsRow W.heap.size 36 2 s7 l.length (pce l) ∧ Below W.heap.size W wr)
 case atStart => exact ⟨c, Nat.le_refl _, hc, ⟨HS.out, HG.out, rfl⟩, ho4, b04⟩
 case round =>
  clear ho4 b04 HS HG
  obtain ⟨l, hlg, hl8, HF, hown, hbw⟩ := hrel
  have hl2 : 2 ≤ l.length := by
   have := HF.out.2.1
   unfold good chkN at this
   rw [decide_eq_true_eq] at this
   by_cases h : l.length < 2
   ·rw [if_pos (by simpa using h)] at this; exact absurd this (by decide)
   ·omega
  obtain ⟨g, cap, rfl, hg1, hg2⟩ := hown.form (by omega)
  go_wp2
  go_loopg [8, 9, 10] l.length (fun g2 s8 s9 s10 wr2 => ∃ k : Nat, s10 = .int .i64 ((k + 1 : Nat) : Int) ∧ k + 2 ≤ l.length ∧ l.length ≤ g2 + k + 2 ∧ s8 = atV (pick q l k) ∧ s9 = leV q (pick q l k) ∧ wr2.ownsRow W.heap.size 36 2 (.slice (some ⟨g, 0, none⟩) l.length cap) l.length (pce l) ∧ Below W.heap.size W wr2)
  case atStart => exact ⟨0, rfl, by omega, by omega, rfl, rfl, hown, hbw⟩
  case round =>
   clear hown hbw
   obtain ⟨k, rfl, hk, hgk, rfl, rfl, hwn, hbn⟩ := hrel
   have hlv : rd (lvQ q (pick q l k)) ≤ 2500 := lv_rd (by omega) HF.out.1 (by omega)
   have hle : leV q (pick q l k) = .string ⟨(rt (lvQ q (pick q l k))).toArray⟩ := by cases pick q l k <;> rfl
   rw [hle]
   by_cases hlt : k + 2 < l.length
   ·have hx : ∀ j, j < l.length → l[j]? = some (gt l j) := fun j hj => by rw [List.getElem?_eq_getElem hj]; simp [gt, List.getD_eq_getElem?_getD, hj]
    have hz : ∀ j, j < l.length → Sz 300 (gt l j) := fun j hj => (HF.out.1 _ (List.mem_of_getElem? (hx j hj))).more (by decide)
    obtain ⟨ca, ca'⟩ := cel2_at (fun p : Pt => rt p.1) (fun p : Pt => rt p.2) (hx k (by omega))
    obtain ⟨cb, cb'⟩ := cel2_at (fun p : Pt => rt p.1) (fun p : Pt => rt p.2) (hx (k + 1) (by omega))
    obtain ⟨cc, cc'⟩ := cel2_at (fun p : Pt => rt p.1) (fun p : Pt => rt p.2) (hx (k + 2) (by omega))
    have za := hz k (by omega)
    have zb := hz (k + 1) (by omega)
    have zc := hz (k + 2) (by omega)
    have hxa := rd_ar za zb zc
    have hpk := pick_succ q l k
    clear hx hz
    generalize gt l k = A at *
    generalize gt l (k + 1) = B at *
    generalize gt l (k + 2) = C at *
    rw [← hwn.drew.cellAt (k * 2) (by omega)] at ca
    rw [← hwn.drew.cellAt (k * 2 + 1) (by omega)] at ca'
    rw [← hwn.drew.cellAt ((k + 1) * 2) (by omega)] at cb
    rw [← hwn.drew.cellAt ((k + 1) * 2 + 1) (by omega)] at cb'
    rw [← hwn.drew.cellAt ((k + 2) * 2) (by omega)] at cc
    rw [← hwn.drew.cellAt ((k + 2) * 2 + 1) (by omega)] at cc'
    have i0 : (0 : Int) ≤ (k : Int) := Int.natCast_nonneg _
    have i1 : (k : Int) < (l.length : Int) := by omega
    have i2 : (k : Int) + 1 < (l.length : Int) := by omega
    have i3 : (k : Int) + 1 + 1 < (l.length : Int) := by omega
    have i4 : (0 : Int) ≤ (k : Int) + 1 := by omega
    have i5 : (0 : Int) ≤ (k : Int) + 1 + 1 := by omega
    have i6 : ((k : Int) + 1).toNat = k + 1 := by omega
    have i7 : ((k : Int) + 1 + 1).toNat = k + 2 := by omega
    have w1 : IntKind.i64.wrap (k : Int) = (k : Int) := by rw [IntKind.wrap_i64]; omega
    have w2 : IntKind.i64.wrap ((k : Int) + 1 + 1) = (k : Int) + 1 + 1 := by rw [IntKind.wrap_i64]; omega
    have w3 : IntKind.i64.wrap ((k : Int) + 1 - 1) = (k : Int) := by rw [IntKind.wrap_i64]; omega
    have e0 : (k : Int) + 1 - 1 = (k : Int) := by omega
    go_wp2_with fail
    have hbd : Below W.heap.size W wr.drew := hbn.grown (gr_drew (gr_self wr (r := none))) hbn.size (fun k hk => by cases hk)
    have hwd := hwn.drew
    have hla := rt_len A.1; have hla' := rt_len A.2; have hlb := rt_len B.1; have hlb' := rt_len B.2; have hlc := rt_len C.1; have hlc' := rt_len C.2
    obtain ⟨za1, za2⟩ := za; obtain ⟨zb1, zb2⟩ := zb; obtain ⟨zc1, zc2⟩ := zc
    have hA := (Tryz.parea A B C ⟨za1, za2⟩ ⟨zb1, zb2⟩ ⟨zc1, zc2⟩).2 (fun _ _ => False) wr.drew [.agg #[.string ⟨(rt A.1).toArray⟩, .string ⟨(rt A.2).toArray⟩], .agg #[.string ⟨(rt B.1).toArray⟩, .string ⟨(rt B.2).toArray⟩], .agg #[.string ⟨(rt C.1).toArray⟩, .string ⟨(rt C.2).toArray⟩]] (fun _ _ h => h.elim) (Tryz.hL W _ hL hbd)
     (Reps.cons (rep_pair _ _ _ _ (by unfold maxLen; omega) (by unfold maxLen; omega)) (Reps.cons (rep_pair _ _ _ _ (by unfold maxLen; omega) (by unfold maxLen; omega)) (Reps.cons (rep_pair _ _ _ _ (by unfold maxLen; omega) (by unfold maxLen; omega)) .nil)))
    generalize ar A B C = z at *
    have hlz := rt_len z
    have HD : Hid (wr.drew.ownsRow W.heap.size 36 2 (.slice (some ⟨g, 0, none⟩) l.length cap) l.length (pce l) ∧ Below W.heap.size W wr.drew) := ⟨hwd, hbd⟩
    clear hla hla' hlb hlb' hlc hlc' za1 za2 zb1 zb2 zc1 zc2 hwn hbn hwd hbd
    go_region_held3 (fun w' => w'.cell? ⟨g, k * 2, none⟩ = some (.string ⟨(rt A.1).toArray⟩) ∧ w'.cell? ⟨g, k * 2 + 1, none⟩ = some (.string ⟨(rt A.2).toArray⟩) ∧ w'.cell? ⟨g, (k + 1) * 2, none⟩ = some (.string ⟨(rt B.1).toArray⟩) ∧ w'.cell? ⟨g, (k + 1) * 2 + 1, none⟩ = some (.string ⟨(rt B.2).toArray⟩) ∧ w'.cell? ⟨g, (k + 2) * 2, none⟩ = some (.string ⟨(rt C.1).toArray⟩) ∧ w'.cell? ⟨g, (k + 2) * 2 + 1, none⟩ = some (.string ⟨(rt C.2).toArray⟩)) (go_keep)
     (first
      | (go_at_call 33; refine Calls.mono hA ?_; rintro e W5 ⟨v5, rfl, hb5, hr5⟩; obtain rfl : v5 = .string ⟨(rt z).toArray⟩ := (by cases hr5; rfl); clear hr5; have b5 := HD.out.2.trans (hb5.mono HD.out.2.size); have o5 := HD.out.1.kept (gr_below (r := none) hb5) (.inr (by simp [Value.ownBlock])); have hgl := (HD.out.1.lt g rfl).2; have d1 := (hb5.cell (p := ⟨g, k * 2, none⟩) hgl).trans ca; have d2 := (hb5.cell (p := ⟨g, k * 2 + 1, none⟩) hgl).trans ca'; have d3 := (hb5.cell (p := ⟨g, (k + 1) * 2, none⟩) hgl).trans cb; have d4 := (hb5.cell (p := ⟨g, (k + 1) * 2 + 1, none⟩) hgl).trans cb'; have d5 := (hb5.cell (p := ⟨g, (k + 2) * 2, none⟩) hgl).trans cc; have d6 := (hb5.cell (p := ⟨g, (k + 2) * 2 + 1, none⟩) hgl).trans cc'; clear hb5 hgl)
      | (go_at_call 32; refine Calls.mono ((Tryz.rabs z (by omega)).2 (fun _ _ => False) _ [.string ⟨(rt z).toArray⟩] (fun _ _ h => h.elim) (Tryz.hL W _ hL b5) (Reps.cons (.str _ (by unfold maxLen; omega)) .nil)) ?_; rintro e W6 ⟨v6, rfl, hb6, hr6⟩; obtain rfl : v6 = .string ⟨(rt (absQ z)).toArray⟩ := (by cases hr6; rfl); clear hr6; have b6 := b5.trans (hb6.mono b5.size); have o6 := o5.kept (gr_below (r := none) hb6) (.inr (by simp [Value.ownBlock])); have hgm := (o5.lt g rfl).2; have f1 := (hb6.cell (p := ⟨g, k * 2, none⟩) hgm).trans d1; have f2 := (hb6.cell (p := ⟨g, k * 2 + 1, none⟩) hgm).trans d2; have f3 := (hb6.cell (p := ⟨g, (k + 1) * 2, none⟩) hgm).trans d3; have f4 := (hb6.cell (p := ⟨g, (k + 1) * 2 + 1, none⟩) hgm).trans d4; have f5 := (hb6.cell (p := ⟨g, (k + 2) * 2, none⟩) hgm).trans d5; have f6 := (hb6.cell (p := ⟨g, (k + 2) * 2 + 1, none⟩) hgm).trans d6; clear hb6 hgm))
    have hla : rd (absQ z) ≤ 2500 := by rw [rd_abs]; omega
    have hC7 := (Tryz.rcompare (absQ z) (lvQ q (pick q l k)) (by omega) (by omega)).2 (fun _ _ => False) W6 [.string ⟨(rt (absQ z)).toArray⟩, .string ⟨(rt (lvQ q (pick q l k))).toArray⟩] (fun _ _ h => h.elim) (Tryz.hL W _ hL b6) (Reps.cons (.str _ (by have := rt_len (absQ z); unfold maxLen; omega)) (Reps.cons (.str _ (by have := rt_len (lvQ q (pick q l k)); unfold maxLen; omega)) .nil))
    rw [show abQ z = absQ z from rfl] at hpk
    have HB : Hid (∀ m : List Pt, (∀ p ∈ m, p ∈ l) → ∀ y ∈ m, (rt y.1).length ≤ maxLen ∧ (rt y.2).length ≤ maxLen) := fun m hm y hy => by
     obtain ⟨h1, h2⟩ := HF.out.1 y (hm y hy)
     have l1 := rt_len y.1; have l2 := rt_len y.2
     exact ⟨by unfold maxLen; omega, by unfold maxLen; omega⟩
    generalize hst : pick q l k = st at *
    have HPK : Hid (pick q l (k + 1) = if (absQ z < lvQ q st ∨ absQ z = lvQ q st ∧ st = none) ∧ good (l.eraseIdx (k + 1)) = true then some (k + 1, absQ z) else st) := hpk
    clear hpk f1 f2 f3 f4 f5 f6 d1 d2 d3 d4 d5 d6 ca ca' cb cb' cc cc' hA b5 o5 HD hst hlz hxa
    rcases rat_tri (absQ z) (lvQ q st) with hc | hc | hc
    ·have ec : cmpQ (absQ z) (lvQ q st) = -1 := by unfold cmpQ; rw [if_pos hc]
     rw [ec] at hC7
     go_wp2_with (go_at_call 34; refine Calls.mono hC7 ?_; rintro e W7 ⟨v7, rfl, hb7, hr7⟩; obtain rfl : v7 = .int .i64 (-1) := (by cases hr7; rfl); clear hr7; have b7 := b6.trans (hb7.mono b6.size); have o7 := o6.kept (gr_below (r := none) hb7) (.inr (by simp [Value.ownBlock])); clear hb7)
     refine Calls.mono ((Tryz.pclone l (by omega)).2 (fun b _ => b < W7.heap.size) W7 [.slice (some ⟨g, 0, none⟩) l.length cap] (fun _ _ h => h) (Tryz.hL W _ hL b7) (Reps.cons (rep_own2 o7 (HB.out l (fun _ h => h)) (fun _ _ _ h => h)) .nil)) ?_
     rintro e W8 ⟨v8, rfl, hb8, hr8⟩
     have o8 := own_of_res (f := fun p : Pt => rt p.1) (g := fun p : Pt => rt p.2) (by kernel_rfl) hr8
     have hdel := Tryz.pdelete W7 W8 v8 l (k + 1) (Tryz.hL W _ hL b7) hb8 o8 (by omega) (by omega)
     rw [show ((k + 1 : Nat) : Int) = (k : Int) + 1 by omega, show ((k + 1 + 1 : Nat) : Int) = (k : Int) + 1 + 1 by omega] at hdel
     clear hr8
     go_wp2_with (go_at_call 35; refine Calls.mono hdel ?_; rintro e W9 ⟨v9, rfl, o9, hg9, hb9⟩; have b9 := b7.trans (hb9.mono b7.size))
     refine Calls.mono ((Tryz.pcheckL (l.eraseIdx (k + 1)) (by have := List.length_eraseIdx_le l (k + 1); omega) (fun p hp => HF.out.1 p (List.mem_of_mem_eraseIdx hp))).2 (fun b _ => b < W9.heap.size) W9 [v9] (fun _ _ h => h) (Tryz.hL W _ hL b9) (Reps.cons (rep_own2 o9 (HB.out _ (fun _ h => List.mem_of_mem_eraseIdx h)) (fun _ _ _ h => h)) .nil)) ?_
     rintro e W10 ⟨v10, rfl, hb10, hr10⟩
     obtain rfl : v10 = .int .i64 (chkN (l.eraseIdx (k + 1)) false) := (by cases hr10; rfl)
     have b10 := b9.trans (hb10.mono b9.size)
     have o10 := o7.kept (gr_below (r := none) (hb9.trans (hb10.mono hb9.size))) (.inr (by simp [Value.ownBlock]))
     clear hr10 hb10 hb9 hg9 hb8 o8 o9 hdel
     cases hgd : good (l.eraseIdx (k + 1)) with
     | true =>
       have hn : chkN (l.eraseIdx (k + 1)) false = 0 := by unfold good at hgd; exact of_decide_eq_true hgd
       rw [hn]
       go_wp2
       go_roundg (l.length - (k + 3))
       case measure => omega
       case rel =>
        have hp1 : pick q l (k + 1) = some (k + 1, absQ z) := by rw [HPK.out, if_pos ⟨.inl hc, hgd⟩]
        exact ⟨k + 1, by go_num, by omega, by omega, by rw [hp1]; simp [atV], by rw [hp1]; rfl, o10, b10⟩
     | false =>
       have hn : ¬chkN (l.eraseIdx (k + 1)) false = 0 := fun h => by unfold good at hgd; rw [h] at hgd; cases hgd
       generalize chkN (l.eraseIdx (k + 1)) false = n at hn ⊢
       go_wp2
       go_roundg (l.length - (k + 3))
       case measure => omega
       case rel =>
        have hp1 : pick q l (k + 1) = st := by rw [HPK.out, if_neg (fun h => by rw [hgd] at h; cases h.2)]
        exact ⟨k + 1, by go_num, by omega, by omega, by rw [hp1], by rw [hp1]; exact hle.symm, o10, b10⟩
    ·have ec : cmpQ (absQ z) (lvQ q st) = 0 := by rw [hc]; exact cmpQ_self _
     rw [ec] at hC7
     have HC : Hid (absQ z = lvQ q st) := hc
     clear hc
     rcases st_cases st with ⟨hs0, hat⟩ | ⟨hs0, j, hat⟩
     ·rw [hat]
      have HS0 : Hid (st = none) := hs0
      clear hs0
      go_wp2_with (go_at_call 34; refine Calls.mono hC7 ?_; rintro e W7 ⟨v7, rfl, hb7, hr7⟩; obtain rfl : v7 = .int .i64 (0) := (by cases hr7; rfl); clear hr7; have b7 := b6.trans (hb7.mono b6.size); have o7 := o6.kept (gr_below (r := none) hb7) (.inr (by simp [Value.ownBlock])); clear hb7)
      refine Calls.mono ((Tryz.pclone l (by omega)).2 (fun b _ => b < W7.heap.size) W7 [.slice (some ⟨g, 0, none⟩) l.length cap] (fun _ _ h => h) (Tryz.hL W _ hL b7) (Reps.cons (rep_own2 o7 (HB.out l (fun _ h => h)) (fun _ _ _ h => h)) .nil)) ?_
      rintro e W8 ⟨v8, rfl, hb8, hr8⟩
      have o8 := own_of_res (f := fun p : Pt => rt p.1) (g := fun p : Pt => rt p.2) (by kernel_rfl) hr8
      have hdel := Tryz.pdelete W7 W8 v8 l (k + 1) (Tryz.hL W _ hL b7) hb8 o8 (by omega) (by omega)
      rw [show ((k + 1 : Nat) : Int) = (k : Int) + 1 by omega, show ((k + 1 + 1 : Nat) : Int) = (k : Int) + 1 + 1 by omega] at hdel
      clear hr8
      go_wp2_with (go_at_call 35; refine Calls.mono hdel ?_; rintro e W9 ⟨v9, rfl, o9, hg9, hb9⟩; have b9 := b7.trans (hb9.mono b7.size))
      refine Calls.mono ((Tryz.pcheckL (l.eraseIdx (k + 1)) (by have := List.length_eraseIdx_le l (k + 1); omega) (fun p hp => HF.out.1 p (List.mem_of_mem_eraseIdx hp))).2 (fun b _ => b < W9.heap.size) W9 [v9] (fun _ _ h => h) (Tryz.hL W _ hL b9) (Reps.cons (rep_own2 o9 (HB.out _ (fun _ h => List.mem_of_mem_eraseIdx h)) (fun _ _ _ h => h)) .nil)) ?_
      rintro e W10 ⟨v10, rfl, hb10, hr10⟩
      obtain rfl : v10 = .int .i64 (chkN (l.eraseIdx (k + 1)) false) := (by cases hr10; rfl)
      have b10 := b9.trans (hb10.mono b9.size)
      have o10 := o7.kept (gr_below (r := none) (hb9.trans (hb10.mono hb9.size))) (.inr (by simp [Value.ownBlock]))
      clear hr10 hb10 hb9 hg9 hb8 o8 o9 hdel
      cases hgd : good (l.eraseIdx (k + 1)) with
      | true =>
        have hn : chkN (l.eraseIdx (k + 1)) false = 0 := by unfold good at hgd; exact of_decide_eq_true hgd
        rw [hn]
        go_wp2
        go_roundg (l.length - (k + 3))
        case measure => omega
        case rel =>
         have hp1 : pick q l (k + 1) = some (k + 1, absQ z) := by rw [HPK.out, if_pos ⟨.inr ⟨HC.out, HS0.out⟩, hgd⟩]
         exact ⟨k + 1, by go_num, by omega, by omega, by rw [hp1]; simp [atV], by rw [hp1]; rfl, o10, b10⟩
      | false =>
        have hn : ¬chkN (l.eraseIdx (k + 1)) false = 0 := fun h => by unfold good at hgd; rw [h] at hgd; cases hgd
        generalize chkN (l.eraseIdx (k + 1)) false = n at hn ⊢
        go_wp2
        go_roundg (l.length - (k + 3))
        case measure => omega
        case rel =>
         have hp1 : pick q l (k + 1) = st := by rw [HPK.out, if_neg (fun h => by rw [hgd] at h; cases h.2)]
         exact ⟨k + 1, by go_num, by omega, by omega, by rw [hp1, hat], by rw [hp1]; exact hle.symm, o10, b10⟩
     ·have hj0 : (0 : Int) ≤ (j : Int) := Int.natCast_nonneg _
      rw [hat]
      go_wp2_with (go_at_call 34; refine Calls.mono hC7 ?_; rintro e W7 ⟨v7, rfl, hb7, hr7⟩; obtain rfl : v7 = .int .i64 (0) := (by cases hr7; rfl); clear hr7; have b7 := b6.trans (hb7.mono b6.size); have o7 := o6.kept (gr_below (r := none) hb7) (.inr (by simp [Value.ownBlock])); clear hb7)
      go_roundg (l.length - (k + 3))
      case measure => omega
      case rel =>
       have hp1 : pick q l (k + 1) = st := by rw [HPK.out, if_neg (fun h => by rcases h.1 with h | h; exact absurd HC.out (by grind); exact hs0 h.2)]
       exact ⟨k + 1, by go_num, by omega, by omega, by rw [hp1, hat], by rw [hp1]; exact hle.symm, o7, b7⟩
    ·have ec : cmpQ (absQ z) (lvQ q st) = 1 := by unfold cmpQ; rw [if_neg (by grind), if_pos hc]
     rw [ec] at hC7
     go_wp2_with (go_at_call 34; refine Calls.mono hC7 ?_; rintro e W7 ⟨v7, rfl, hb7, hr7⟩; obtain rfl : v7 = .int .i64 (1) := (by cases hr7; rfl); clear hr7; have b7 := b6.trans (hb7.mono b6.size); have o7 := o6.kept (gr_below (r := none) hb7) (.inr (by simp [Value.ownBlock])); clear hb7)
     go_roundg (l.length - (k + 3))
     case measure => omega
     case rel =>
      have hp1 : pick q l (k + 1) = st := by rw [HPK.out, if_neg (fun h => by rcases h.1 with h | h; exact absurd hc (by grind); exact absurd hc (by grind))]
      exact ⟨k + 1, by go_num, by omega, by omega, by rw [hp1], by rw [hp1]; exact hle.symm, o7, b7⟩
   ·have hk2 : k + 2 = l.length := by omega
    have HK : Hid (k + 2 = l.length) := hk2
    have i3 : ¬((k : Int) + 1 + 1 < (l.length : Int)) := by omega
    have w2 : IntKind.i64.wrap ((k : Int) + 1 + 1) = (k : Int) + 1 + 1 := by rw [IntKind.wrap_i64]; omega
    have HB : Hid (∀ m : List Pt, (∀ p ∈ m, p ∈ l) → ∀ y ∈ m, (rt y.1).length ≤ maxLen ∧ (rt y.2).length ≤ maxLen) := fun m hm y hy => by
     obtain ⟨h1, h2⟩ := HF.out.1 y (hm y hy)
     have l1 := rt_len y.1; have l2 := rt_len y.2
     exact ⟨by unfold maxLen; omega, by unfold maxLen; omega⟩
    clear hk2 hk hgk hlt
    rcases st_cases2 (pick q l k) with ⟨hs0, hat⟩ | ⟨j, y, hs0, hat⟩
    ·rw [hat]
     have HP : Hid (pick q l k = none) := hs0
     clear hs0 hat hle
     go_wp2
     go_ret2
     refine ⟨.tuple #[.slice (some ⟨g, 0, none⟩) l.length cap, .int .i64 0], by simp, hbn, ?_⟩
     rw [← HF.out.2.2, simp_none HK.out HP.out]
     refine Rep.tup [chn l, .int .i64 0] [.slice (some ⟨g, 0, none⟩) l.length cap, .int .i64 0] rfl fun i d v hd hv => ?_
     match i with
     | 0 =>
       cases hd; cases hv
       exact rep_own2 hwn (HB.out l (fun _ h => h)) (fun b _ h1 h2 => .inr ⟨h1, h2⟩)
     | 1 => cases hd; cases hv; exact .int _ _
     | i + 2 => simp at hd
    ·rw [hat]
     obtain ⟨j1, j2, j3, j4⟩ := pick_spec hs0
     have hkk := HK.out
     have hdel := Tryz.pdelete W wr _ l j hL hbn hwn (by omega) (by omega)
     rw [show ((j + 1 : Nat) : Int) = (j : Int) + 1 by omega] at hdel
     have hj0 : ¬((j : Int) < 0) := by omega
     have w4 : IntKind.i64.wrap ((j : Int) + 1) = (j : Int) + 1 := by rw [IntKind.wrap_i64]; omega
     have HP : Hid (pick q l k = some (j, y)) := hs0
     clear hs0 hat hle hkk j1 j2 j3
     go_wp2_with (go_at_call 35; refine Calls.mono hdel ?_; rintro e W9 ⟨v9, rfl, o9, hg9, hb9⟩)
     go_roundg (l.length - 1)
     case measure => have := HK.out; omega
     case rel =>
      obtain ⟨j1, j2, j3, _⟩ := pick_spec HP.out
      have hkk := HK.out
      have e2 : (l.eraseIdx j).length = l.length - 1 := List.length_eraseIdx_of_lt (by omega)
      exact ⟨l.eraseIdx j, by omega, by omega, ⟨fun p hp => HF.out.1 p (List.mem_of_mem_eraseIdx hp), j4, by rw [← simp_some HK.out HP.out]; exact HF.out.2.2⟩, o9, hb9⟩
end Go.Proofs

/-
 POLYLINE: the chapter's examples. Own work.
-/
namespace Go.Proofs
open Go Go.Pi Go.RowKit Go.Ar Go.Ge

def exA : List Pt := [(0, 0), (4, 0)]
def exB : List Pt := [(1, -1), (1, 1), (3, 1), (3, -1)]
def exC : List Pt := [(0, 0), (1, 0), (2, 1), (4, 0)]
def exD : List Pt := [(0, 0), (2, 0), (2, 2)]
def szB (k : Nat) (l : List Pt) : Bool := l.all fun p => decide (rd p.1 ≤ k) && decide (rd p.2 ≤ k)
theorem sz_of_B {k : Nat} {l : List Pt} (h : szB k l = true) : ∀ p ∈ l, Sz k p := fun p hp => by
 have := List.all_eq_true.1 h p hp
 simpa [Sz] using this
theorem Tryz.kCross : Con Tryz.prog Tryz.L 11 [.sl 2 [.str [48], .str [48], .str [52], .str [48]], .sl 4 [.str [49], .str [45, 49], .str [49], .str [49], .str [51], .str [49], .str [51], .str [45, 49]]]
  (.tup [.sl 2 [.int .i64 0, .int .i64 0, .str [49], .str [48], .int .i64 0, .int .i64 2, .str [51], .str [48]], .int .i64 0]) := by
 have h := Tryz.pcrossings exA exB (by decide) (by decide) (sz_of_B (by decide +kernel)) (sz_of_B (by decide +kernel)) (by decide +kernel) (by decide +kernel)
 rw [show crR (mP exA exB) (exA.length - 1) (exB.length - 1) = .tup [.sl 2 [.int .i64 0, .int .i64 0, .str [49], .str [48], .int .i64 0, .int .i64 2, .str [51], .str [48]], .int .i64 0] by
  have e1 : ovC (mP exA exB) (exA.length - 1) (exB.length - 1) = false := by decide +kernel
  have e2 : outC (mP exA exB) (exB.length - 1) (exA.length - 1) = [(0, 0, (1, 0)), (0, 2, (3, 0))] := by decide +kernel
  have e3 : crl [(0, 0, ((1 : Rat), (0 : Rat))), (0, 2, ((3 : Rat), (0 : Rat)))] = [.int .i64 0, .int .i64 0, .str [49], .str [48], .int .i64 0, .int .i64 2, .str [51], .str [48]] := by kernel_rfl
  rw [crR, e1, e2, e3, if_neg (by decide)]
  rfl] at h
 rw [show chn exA = .sl 2 [.str [48], .str [48], .str [52], .str [48]] by kernel_rfl, show chn exB = .sl 4 [.str [49], .str [45, 49], .str [49], .str [49], .str [51], .str [49], .str [51], .str [45, 49]] by kernel_rfl] at h
 exact h
theorem Tryz.kSimp : Con Tryz.prog Tryz.L 12 [.sl 4 [.str [48], .str [48], .str [49], .str [48], .str [50], .str [49], .str [52], .str [48]], .str [49]]
  (.tup [.sl 3 [.str [48], .str [48], .str [50], .str [49], .str [52], .str [48]], .int .i64 0]) := by
 have h := Tryz.psimplify exC 1 (by decide) (sz_of_B (by decide +kernel)) (by decide +kernel) (by decide +kernel) (by decide +kernel)
 rw [show simp 1 exC.length exC = [(0, 0), (2, 1), (4, 0)] by decide +kernel, show rt 1 = [49] by kernel_rfl, show chn exC = .sl 4 [.str [48], .str [48], .str [49], .str [48], .str [50], .str [49], .str [52], .str [48]] by kernel_rfl, show chn [((0 : Rat), (0 : Rat)), ((2 : Rat), (1 : Rat)), ((4 : Rat), (0 : Rat))] = .sl 3 [.str [48], .str [48], .str [50], .str [49], .str [52], .str [48]] by kernel_rfl] at h
 exact h
theorem Tryz.kArea : Con Tryz.prog Tryz.L 13 [.sl 3 [.str [48], .str [48], .str [50], .str [48], .str [50], .str [50]]] (.tup [.str [52], .int .i64 0]) := by
 have h := Tryz.pareaR exD (by decide) (sz_of_B (by decide +kernel)) (by decide +kernel) (by decide +kernel)
 rw [show totK exD exD.length = 4 by decide +kernel, show rt 4 = [52] by kernel_rfl, show chn exD = .sl 3 [.str [48], .str [48], .str [50], .str [48], .str [50], .str [50]] by kernel_rfl] at h
 exact h
set_option maxRecDepth 100000 in
set_option maxHeartbeats 4000000 in
theorem Tryz.known11 : Con Tryz.prog Tryz.L 4 [] (.bool true) := by
 refine rule4 Tryz.hL rfl rfl rfl ?_
 (simp only [pc4, rs4, oU, oC]; refine ev ?_; try exact ⟨⟩)
 refine callF_of Tryz.kCross ?_
 (refine ev ?_; try exact ⟨⟩)
 refine callF_of Tryz.kSimp ?_
 (refine ev ?_; try exact ⟨⟩)
 refine callF_of Tryz.kArea ?_
 (refine ev ?_; try exact ⟨⟩)
 decide
end Go.Proofs

/-
 POLYLINE: the law PolylineCrosses. Own work.
-/
namespace Go.Proofs
open Go Go.Pi Go.RowKit Go.Ar Go.Ge

theorem Tryz.lpoints1 (l : List Q8) (hl : l.length ≤ 1048576) (hq : ∀ p ∈ l, okQ p) : Con Tryz.prog Tryz.L 5 [.sl l.length (q8s l), .bool false] (chn (ptsO l 1)) := by
 have h := Tryz.lpoints l false hl hq
 simpa using h
theorem good_iff {c : List Pt} : good c = true ↔ chkN c false = 0 := by simp [good]
end Go.Proofs

/-
 POLYLINE: what Split is handed and what it returns, as cells. Own work.
-/
namespace Go.Proofs
open Go Go.Pi Go.RowKit Go.Shelf Go.Ar Go.Ge Go.Sp

theorem chn_cells {S : Nat → Nat → Prop} {W : World} {v : Value} {l : List Pt} (h : Rep S W (chn l) v) (hl : 0 < l.length) :
  ∃ b off cap, v = .slice (some ⟨b, off, none⟩) l.length cap ∧ l.length ≤ cap ∧ cap ≤ maxLen ∧ ∀ j p, l[j]? = some p → S b (off + j * 2) ∧ W.cell? ⟨b, off + j * 2, none⟩ = some (.string ⟨(rt p.1).toArray⟩) ∧ S b (off + j * 2 + 1) ∧ W.cell? ⟨b, off + j * 2 + 1, none⟩ = some (.string ⟨(rt p.2).toArray⟩) := by
 generalize hd : chn l = d at h
 cases h with
 | sl0 a cap hc => injection hd with h1 h2; omega
 | slN => injection hd with h1 h2; omega
 | sl n ds b off cap vs hl' h1 hn hc hr h =>
   injection hd with e1 e2
   subst e1; subst e2
   have hvs : vs = cel2 (fun p : Pt => rt p.1) (fun p : Pt => rt p.2) l := reps_cel2 (S := S) (w := W) ⟨hl', h⟩
   subst hvs
   refine ⟨b, off, cap, rfl, hn, hc, fun j p hj => ?_⟩
   obtain ⟨c1, c2⟩ := cel2_at (fun p : Pt => rt p.1) (fun p : Pt => rt p.2) hj
   have r1 := hr _ _ c1
   have r2 := hr _ _ c2
   exact ⟨r1.1, r1.2, by rw [Nat.add_assoc]; exact r2.1, by rw [Nat.add_assoc]; exact r2.2⟩
 | _ => cases hd
theorem crl_at : ∀ {l : List Cr} {k : Nat} {x : Cr}, l[k]? = some x → (crl l)[k * 4]? = some (.int .i64 x.1) ∧ (crl l)[k * 4 + 1]? = some (.int .i64 x.2.1) ∧ (crl l)[k * 4 + 2]? = some (.str (rt x.2.2.1)) ∧ (crl l)[k * 4 + 3]? = some (.str (rt x.2.2.2))
 | y :: l, 0, x, h => by cases h; exact ⟨rfl, rfl, rfl, rfl⟩
 | y :: l, k + 1, x, h => by
   have ih := crl_at (l := l) (k := k) (x := x) (by simpa using h)
   have e : ∀ j, (crl (y :: l))[j + 4]? = (crl l)[j]? := fun j => rfl
   rw [show (k + 1) * 4 = k * 4 + 4 by omega, show k * 4 + 4 + 1 = k * 4 + 1 + 4 by omega, show k * 4 + 4 + 2 = k * 4 + 2 + 4 by omega, show k * 4 + 4 + 3 = k * 4 + 3 + 4 by omega, e, e, e, e]
   exact ih
theorem crl_cells {S : Nat → Nat → Prop} {W : World} {v : Value} {o : List Cr} (h : Rep S W (.sl o.length (crl o)) v) :
  ∃ ad cap, v = .slice ad o.length cap ∧ ∀ j x, o[j]? = some x → ∃ b off, ad = some ⟨b, off, none⟩ ∧ (∀ i, i < 4 → S b (off + j * 4 + i)) ∧ W.cell? ⟨b, off + j * 4, none⟩ = some (.int .i64 x.1) ∧ W.cell? ⟨b, off + j * 4 + 1, none⟩ = some (.int .i64 x.2.1) ∧ W.cell? ⟨b, off + j * 4 + 2, none⟩ = some (.string ⟨(rt x.2.2.1).toArray⟩) ∧ W.cell? ⟨b, off + j * 4 + 3, none⟩ = some (.string ⟨(rt x.2.2.2).toArray⟩) := by
 generalize hd : D.sl o.length (crl o) = d at h
 cases h with
 | sl0 a cap hc =>
   injection hd with h1 h2
   have : o = [] := List.length_eq_zero_iff.1 h1
   subst this
   exact ⟨a, cap, rfl, fun j x hj => by simp at hj⟩
 | slN =>
   injection hd with h1 h2
   have : o = [] := List.length_eq_zero_iff.1 h1
   subst this
   cases h2
 | sl n ds b off cap vs hl' h1 hn hc hr h =>
   injection hd with e1 e2
   subst e1; subst e2
   refine ⟨some ⟨b, off, none⟩, cap, rfl, fun j x hj => ⟨b, off, rfl, fun i hi => ?_, ?_⟩⟩
   ·have hlt : j < o.length := (List.getElem?_eq_some_iff.1 hj).1
    have hl2 : j * 4 + i < vs.length := by rw [← hl', crl_len]; omega
    have := (hr (j * 4 + i) _ (List.getElem?_eq_getElem hl2)).1
    rwa [← Nat.add_assoc] at this
   ·obtain ⟨c1, c2, c3, c4⟩ := crl_at hj
    have g := fun (i : Nat) (d : D) (hd : (crl o)[i]? = some d) => (show ∃ u, vs[i]? = some u ∧ Rep S W d u from Reps.get (S := S) (w := W) ⟨hl', h⟩ hd)
    obtain ⟨u1, a1, b1⟩ := g _ _ c1
    obtain ⟨u2, a2, b2⟩ := g _ _ c2
    obtain ⟨u3, a3, b3⟩ := g _ _ c3
    obtain ⟨u4, a4, b4⟩ := g _ _ c4
    obtain rfl := b3.str_inv.1
    obtain rfl := b4.str_inv.1
    cases b1; cases b2
    refine ⟨(hr _ _ a1).2, ?_, ?_, ?_⟩
    ·have := (hr _ _ a2).2; rwa [← Nat.add_assoc] at this
    ·have := (hr _ _ a3).2; rwa [← Nat.add_assoc] at this
    ·have := (hr _ _ a4).2; rwa [← Nat.add_assoc] at this
 | _ => cases hd
theorem rep_parts {S : Nat → Nat → Prop} {W : World} {base eP eL : Nat} {vo : Value} {vs : List Value} {out : List (List Pt)} (h : W.ownsRow base eL 1 vo vs.length vs) (hlen : vs.length = out.length)
  (each : ∀ (k : Nat) (u : Value) (l : List Pt), vs[k]? = some u → out[k]? = some l → W.ownsRow base eP 2 u l.length (pce l)) (hz : ∀ l ∈ out, ∀ p ∈ l, (rt p.1).length ≤ maxLen ∧ (rt p.2).length ≤ maxLen) (hS : ∀ b j, base ≤ b → b < W.heap.size → S b j) :
  Rep S W (.sl out.length (out.map fun l => chn l)) vo := by
 rcases h.2 with ⟨rfl, h0⟩ | ⟨b, cap, cur, rfl, hbg, hg, hn, hc, _, _⟩
 ·obtain rfl : out = [] := List.length_eq_zero_iff.1 (by omega)
  exact .sl0 none 0 (Nat.zero_le _)
 ·rw [hlen] at h hn ⊢
  refine .sl out.length (out.map fun l => chn l) b 0 cap vs (by rw [List.length_map]; omega) (fun d hd => ?_) hn hc (fun i u hu => ⟨hS b _ hbg (Array.getElem?_eq_some_iff.1 hg).1, ?_⟩) (fun i d u hd hu => ?_)
  ·obtain ⟨x, _, rfl⟩ := List.mem_map.1 hd
   rfl
  ·have hlt := (List.getElem?_eq_some_iff.1 hu).1
   rw [Nat.zero_add, h.cellAt i (by omega)]; exact hu
  ·rw [List.getElem?_map] at hd
   cases hl : out[i]? with
   | none => rw [hl] at hd; cases hd
   | some l =>
     rw [hl] at hd
     cases hd
     exact rep_own2 (each i u l hu hl) (hz l (List.mem_of_getElem? hl)) hS
end Go.Proofs

/-
 POLYLINE: the comparison of Split. Own work.
-/
namespace Go.Proofs
open Go Go.Pi Go.RowKit Go.Shelf Go.Ar Go.Ge Go.Sp

/-- the comparison along a segment -/
def cmS (a b x y : Pt) : Int := cmpP x y * cmpP b a
theorem cmpP_bd (a b : Pt) : -1 ≤ cmpP a b ∧ cmpP a b ≤ 1 := by
 unfold cmpP cmpQ
 split <;> (try split) <;> (try split) <;> (try split) <;> omega
set_option maxRecDepth 100000 in
set_option maxHeartbeats 4000000 in
theorem Tryz.qcmp (a : List Pt) (i : Nat) (x y : Pt) (ha : a.length ≤ 10) (hi : i + 1 < a.length) (hz : ∀ p ∈ a, Sz 300 p) (hx : Sz 300 x) (hy : Sz 300 y) :
  Con Tryz.prog Tryz.L 19 [ptD x, ptD y, .pt [chn a], .pt [.int .i64 i]] (.int .i64 (cmS (gt a i) (gt a (i + 1)) x y)) := by
 have hA : ∀ j, j < a.length → a[j]? = some (gt a j) := fun j hj => by
  rw [List.getElem?_eq_getElem hj]; simp [gt, List.getD_eq_getElem?_getD, hj]
 have h0 := hA i (by omega)
 have h1 := hA (i + 1) hi
 have z0 : Sz 300 (gt a i) := hz _ (List.mem_of_getElem? h0)
 have z1 : Sz 300 (gt a (i + 1)) := hz _ (List.mem_of_getElem? h1)
 have c1 := Tryz.pcompare x y hx hy
 have c2 := Tryz.pcompare (gt a (i + 1)) (gt a i) z1 z0
 unfold cmS
 have b1 : -1 ≤ cmpP x y ∧ cmpP x y ≤ 1 := cmpP_bd _ _
 have b2 : -1 ≤ cmpP (gt a (i + 1)) (gt a i) ∧ cmpP (gt a (i + 1)) (gt a i) ≤ 1 := cmpP_bd _ _
 generalize gt a i = p at *
 generalize gt a (i + 1) = q at *
 refine rule19 Tryz.hL rfl rfl rfl ?_
 simp only [ptD, pc19, rs19, oU, oC, evX, evY, evZ, forall_const, implies_true, initE, stepF, D.clean, mvF, moF, tkF, shF, ariF, ciF, catF, scF, ebF, eqF, eqOk, eqPr, enF, notF, ngF, cvF, csF, csbF, lenF, lenSF, ixF, iaF, PX.slot, iaAF, faF, ldF, D.mem, stF, bxF, mkSF, boundF, fldF, ixAF, mmF2, D.plain, D.isPure, optAll, D.dull, callVF, splice, D.cells, D.one, sets, resT, D.flat, D.flat0, D.simple, Nat.reduceBNe, Nat.reduceLT, reduceIte, Nat.reduceEqDiff, Nat.reduceAdd, Nat.reduceMul, Nat.reduceSub, Nat.reduceLeDiff, Int.reduceToNat, Int.reduceLT, Int.reduceLE, Int.reduceEq, Int.reduceNeg, Int.reduceSub, Int.reduceAdd, Int.reduceMul, stG_own]
 refine callF_of c1 ?_
 (refine ev ?_; try exact ⟨⟩)
 refine ⟨by omega, ⟨by omega, by omega, by rw [pts_len]; omega⟩, ?_⟩
 rw [show ((i : Int) + 1).toNat = i + 1 by omega]
 simp only [ldC_pts]
 refine ⟨q, h1, ?_⟩
 simp only [pD, evX, evY, evZ, forall_const, implies_true, initE, stepF, D.clean, mvF, moF, tkF, shF, ariF, ciF, catF, scF, ebF, eqF, eqOk, eqPr, enF, notF, ngF, cvF, csF, csbF, lenF, lenSF, ixF, iaF, PX.slot, iaAF, faF, ldF, D.mem, stF, bxF, mkSF, boundF, fldF, ixAF, mmF2, D.plain, D.isPure, optAll, D.dull, callVF, splice, D.cells, D.one, sets, resT, D.flat, D.flat0, D.simple, Nat.reduceBNe, Nat.reduceLT, reduceIte, Nat.reduceEqDiff, Nat.reduceAdd, Nat.reduceMul, Nat.reduceSub, Nat.reduceLeDiff, Int.reduceToNat, Int.reduceLT, Int.reduceLE, Int.reduceEq, Int.reduceNeg, Int.reduceSub, Int.reduceAdd, Int.reduceMul, stG_own]
 refine ⟨⟨by omega, by rw [pts_len]; omega⟩, ?_⟩
 simp only [ldC_pts]
 refine ⟨p, h0, ?_⟩
 simp only [pD, evX, evY, evZ, forall_const, implies_true, initE, stepF, D.clean, mvF, moF, tkF, shF, ariF, ciF, catF, scF, ebF, eqF, eqOk, eqPr, enF, notF, ngF, cvF, csF, csbF, lenF, lenSF, ixF, iaF, PX.slot, iaAF, faF, ldF, D.mem, stF, bxF, mkSF, boundF, fldF, ixAF, mmF2, D.plain, D.isPure, optAll, D.dull, callVF, splice, D.cells, D.one, sets, resT, D.flat, D.flat0, D.simple, Nat.reduceBNe, Nat.reduceLT, reduceIte, Nat.reduceEqDiff, Nat.reduceAdd, Nat.reduceMul, Nat.reduceSub, Nat.reduceLeDiff, Int.reduceToNat, Int.reduceLT, Int.reduceLE, Int.reduceEq, Int.reduceNeg, Int.reduceSub, Int.reduceAdd, Int.reduceMul, stG_own]
 refine callF_of c2 ?_
 (refine ev ?_; try exact ⟨⟩)
 have d1 : cmpP x y = -1 ∨ cmpP x y = 0 ∨ cmpP x y = 1 := by omega
 have d2 : cmpP q p = -1 ∨ cmpP q p = 0 ∨ cmpP q p = 1 := by omega
 rcases d1 with d1 | d1 | d1 <;> rcases d2 with d2 | d2 | d2 <;> rw [d1, d2] <;> decide
/-- it orders as the segment runs -/
theorem cmS_ro {a b : Pt} (hab : a ≠ b) : (∀ x y, cmS a b x y < 0 → rD a b x y) ∧ ∀ x y, ¬cmS a b y x < 0 → rD a b x y := by
 have hb := cmpP_bd b a
 have hz : cmpP b a ≠ 0 := fun e => hab ((cmpP_zero b a).1 e).symm
 have hle := cmpP_le b a
 have tot : ∀ x y : Pt, le x y ∨ le y x := fun x y => by unfold le; grind
 have anti : le a b → le b a → False := fun h1 h2 => hab (by unfold le at h1 h2; exact Prod.ext (by grind) (by grind))
 unfold cmS rD
 by_cases h : le a b
 ·have h1 : cmpP b a = 1 := by
   have : ¬cmpP b a ≤ 0 := fun e => anti h (hle.1 e)
   omega
  simp only [h1, Int.mul_one, if_pos h]
  refine ⟨fun x y hx => ((cmpP_lt x y).1 hx).1, fun x y hx => ?_⟩
  by_cases e : le x y
  ·exact e
  ·exfalso
   apply hx
   rw [cmpP_lt]
   refine ⟨(tot x y).resolve_left e, fun e2 => e ?_⟩
   subst e2
   exact (tot _ _).elim id id
 ·have h1 : cmpP b a = -1 := by
   have : cmpP b a ≤ 0 := hle.2 ((tot a b).resolve_left h)
   omega
  simp only [h1, if_neg h]
  refine ⟨fun x y hx => ?_, fun x y hx => ?_⟩
  ·have : 0 < cmpP x y := by omega
   rw [cmpP_gt] at this
   exact (tot x y).resolve_left this
  ·have : cmpP y x ≤ 0 := by omega
   exact (cmpP_le y x).1 this
end Go.Proofs

/-
 POLYLINE: slices.Compact of points, in the plain walk. Own work.
-/
namespace Go.Proofs
open Go Go.Pi Go.RowKit Go.Shelf Go.Ar Go.Ge Go.Sp

theorem _root_.Go.World.grownBy.dr {a b : World} {r : Option Nat} (h : a.grownBy b r) : a.grownBy b.drew r := ⟨h.os, h.tape, h.output, h.size, h.block⟩
theorem ptB_eq {x y : Pt} : ((ByteArray.mk (rt x.1).toArray).toList == (ByteArray.mk (rt y.1).toArray).toList && (ByteArray.mk (rt x.2).toArray).toList == (ByteArray.mk (rt y.2).toArray).toList) = decide (x = y) := by
 rw [ByteArray.toList_eq, ByteArray.toList_eq, ByteArray.toList_eq, ByteArray.toList_eq]
 simp only [List.toList_toArray]
 by_cases h : x = y
 ·subst h; simp
 ·have h2 : ¬(rt x.1 = rt y.1 ∧ rt x.2 = rt y.2) := fun e => h (Prod.ext (rt_inj e.1) (rt_inj e.2))
  rw [decide_eq_false h]
  simp only [Bool.and_eq_false_iff, beq_eq_false_iff_ne, ne_eq]
  by_cases h3 : rt x.1 = rt y.1
  ·exact .inr fun e => h2 ⟨h3, e⟩
  ·exact .inl h3
theorem Tryz.eqinPt (x y : Pt) (w : World) : (Op.equalIn 10000 36 (.agg #[.string ⟨(rt x.1).toArray⟩, .string ⟨(rt x.2).toArray⟩]) (.agg #[.string ⟨(rt y.1).toArray⟩, .string ⟨(rt y.2).toArray⟩])).run Tryz.prog w = .ok (decide (x = y)) w := by
 have hS : Tryz.prog.underlying 36 = some (.struct (Tryz.prog.fieldsOf 36)) := by kernel_rfl
 have hp : Tryz.prog.stoodInHeld 36 = false := by kernel_rfl
 have u3 := Tryz.underlying34
 have a3 := Tryz.isAgg34
 have z3 := Tryz.sizeOf34
 rw [show (10000 : Nat) = 9999 + 1 from rfl, run_equalIn_agg w 9999 36 _ _ hS hp]
 simp only [Program.fieldsOf, Tryz.underlying36]
 rw [← ptB_eq]
 go_simp
 by_cases h1 : rt x.1 = rt y.1 <;> by_cases h2 : rt x.2 = rt y.2 <;> simp [h1, h2]
theorem Tryz.eqlPt (x y : Pt) (w : World) : (binOp .eql 36 (.agg #[.string ⟨(rt x.1).toArray⟩, .string ⟨(rt x.2).toArray⟩]) (.agg #[.string ⟨(rt y.1).toArray⟩, .string ⟨(rt y.2).toArray⟩])).run Tryz.prog w = .ok (.bool (decide (x = y))) w := by
 rw [run_eql_struct, Tryz.eqinPt]; rfl
theorem Tryz.neqPt (x y : Pt) (w : World) : (binOp .neq 36 (.agg #[.string ⟨(rt x.1).toArray⟩, .string ⟨(rt x.2).toArray⟩]) (.agg #[.string ⟨(rt y.1).toArray⟩, .string ⟨(rt y.2).toArray⟩])).run Tryz.prog w = .ok (.bool (!decide (x = y))) w := by
 rw [run_neq_struct, Tryz.eqinPt]; rfl
theorem Tryz.eqgPt (op : BinOp) (a b : Operand) (x y : Array Value) (w : World) : (eqGuard op 36 a b (.agg x) (.agg y)).run Tryz.prog w = .ok () w := run_eqGuard_agg w op 36 a b x y (by kernel_rfl)

set_option maxRecDepth 100000 in
set_option maxHeartbeats 4000000 in
theorem Tryz.qcompact (w0 W : World) (v : Value) (l : List Pt) (hbw : Below w0.heap.size w0 W) (hown : W.ownsRow w0.heap.size 36 2 v l.length (pce l)) (hlen : l.length ≤ 1000) :
  Calls Tryz.prog 21 #[v] W fun e W' => ∃ v', e = .returned v' ∧
   W'.ownsRow w0.heap.size 36 2 v' (cpt l).length (pce (cpt l)) ∧ W.grownBy W' v.ownBlock ∧ Below w0.heap.size w0 W' := by
 have mixed : Tryz.prog.follows .mixedOrders = true := by kernel_rfl
 have t0 := Tryz.underlying24; have a0 := Tryz.isAgg24; have z0 := Tryz.sizeOf24; have v0 := Tryz.zeroValue24; have u0 := run_underlying Tryz.underlying24
 have t1 := Tryz.underlying36; have a1 := Tryz.isAgg36; have z1 := Tryz.sizeOf36; have v1 := Tryz.zeroValue36; have u1 := run_underlying Tryz.underlying36
 have t3 := Tryz.underlying4; have a3 := Tryz.isAgg4; have z3 := Tryz.sizeOf4; have v3 := Tryz.zeroValue4; have u3 := run_underlying Tryz.underlying4
 have t4 := Tryz.underlying3; have a4 := Tryz.isAgg3; have z4 := Tryz.sizeOf3; have v4 := Tryz.zeroValue3; have u4 := run_underlying Tryz.underlying3
 have vsl : ∃ ad cap, v = .slice ad l.length cap := by
  rcases hown.2 with ⟨h1, h2⟩ | ⟨g, cap, cur, h1, _⟩
  ·exact ⟨none, 0, by rw [h1, h2]⟩
  ·exact ⟨_, _, h1⟩
 obtain ⟨ad, cap, rfl⟩ := vsl
 go_enter Tryz.func21, Tryz.ntmps21
 by_cases h2 : l.length < 2
 ·have HC : Hid (cpt l = l) := cpt_id l fun j x y h1 h3 => absurd (List.getElem?_eq_some_iff.1 h3).1 (by omega)
  have h2' : (l.length : Int) < 2 := by omega
  go_wp2
  go_ret
  exact ⟨.slice ad l.length cap, rfl, by rw [HC.out]; exact hown, .refl _ _, hbw⟩
 ·have h2' : ¬(l.length : Int) < 2 := by omega
  obtain ⟨g, cap', hv, hg1, hg2⟩ := hown.form (by omega)
  cases hv
  have HL : Hid (2 ≤ l.length) := by show _ ≤ _; omega
  clear h2
  go_wp2
  go_loopg [3] l.length (fun gg s3 wr => ∃ k : Nat, s3 = .int .i64 k ∧ 1 ≤ k ∧ k ≤ l.length ∧ l.length ≤ gg + k ∧ Hid (∀ j x y, j + 1 < k → l[j]? = some x → l[j + 1]? = some y → x ≠ y) ∧ wr.ownsRow w0.heap.size 36 2 (.slice (some ⟨g, 0, none⟩) l.length cap) l.length (pce l) ∧ W.grownBy wr (some g))
  case atStart => exact ⟨1, rfl, Nat.le_refl _, by omega, by omega, fun j x y h => by omega, hown, ⟨rfl, rfl, rfl, Nat.le_refl _, fun _ _ _ => rfl⟩⟩
  case round =>
   obtain ⟨k, rfl, hk1, hk2, hgk, HA, hwn, hgr⟩ := hrel
   clear hown
   by_cases hlt : k < l.length
   ·have hltz : (k : Int) < (l.length : Int) := by omega
    obtain ⟨kp, rfl⟩ : ∃ kp, k = kp + 1 := ⟨k - 1, by omega⟩
    have hp : l[kp]? = some (l[kp]'(by omega)) := List.getElem?_eq_getElem (by omega)
    generalize l[kp]'(by omega) = p at hp
    have hq : l[kp + 1]? = some (l[kp + 1]'(by omega)) := List.getElem?_eq_getElem (by omega)
    generalize l[kp + 1]'(by omega) = q at hq
    obtain ⟨cp, cp'⟩ := cel2_at (fun p : Pt => rt p.1) (fun p : Pt => rt p.2) hp
    obtain ⟨cq, cq'⟩ := cel2_at (fun p : Pt => rt p.1) (fun p : Pt => rt p.2) hq
    rw [← hwn.cellAt (kp * 2) (by omega)] at cp
    rw [← hwn.cellAt (kp * 2 + 1) (by omega)] at cp'
    rw [← hwn.cellAt ((kp + 1) * 2) (by omega)] at cq
    rw [← hwn.cellAt ((kp + 1) * 2 + 1) (by omega)] at cq'
    have HP : Hid (l[kp]? = some p ∧ l[kp + 1]? = some q) := ⟨hp, hq⟩
    have HW : Hid (wr.ownsRow w0.heap.size 36 2 (.slice (some ⟨g, 0, none⟩) l.length cap) l.length (pce l) ∧ W.grownBy wr (some g)) := ⟨hwn, hgr⟩
    have e0 : ((kp : Int) + 1).toNat = kp + 1 := by omega
    have p0 : (0 : Int) ≤ (kp : Int) + 1 := by omega
    have jz : (kp : Int) + 1 < (l.length : Int) := by omega
    have jz1 : (kp : Int) < (l.length : Int) := by omega
    have hwp : IntKind.i64.wrap (kp : Int) = (kp : Int) := by rw [IntKind.wrap_i64]; omega
    have he := Tryz.eqlPt q p
    have hge := Tryz.eqgPt
    clear hp hq hwn hgr
    by_cases hqp : q = p
    ·have ed : decide (q = p) = true := decide_eq_true hqp
     rw [ed] at he
     have hcap : l.length ≤ cap := by
      rcases HW.out.1.2 with ⟨h1, _⟩ | ⟨g', cap', cur, h1, _, _, h2, _⟩
      ·cases h1
      ·cases h1; exact h2
     have hne : ¬(cap = kp + 1) := by omega
     go_wp2_with fail
     go_big_region_o
     all_goals go_wp2
     clear cp cp' cq cq' he
     go_loopg [3, 5] l.length (fun gg s3 s5 wr2 => ∃ (kk k2 : Nat) (d : List Pt), s3 = .int .i64 kk ∧ s5 = .int .i64 ((k2 + 1 : Nat) : Int) ∧ kk + 1 ≤ kp + 1 + (k2 + 1) ∧ kp + 1 + (k2 + 1) ≤ l.length ∧ l.length ≤ gg + (kp + 1 + (k2 + 1)) ∧ d.length = l.length ∧ Hid (d.take kk = cpt (l.take (kp + 1 + (k2 + 1))) ∧ ∀ j, kk ≤ j → d[j]? = l[j]?) ∧ wr2.ownsRow w0.heap.size 36 2 (.slice (some ⟨g, 0, none⟩) l.length cap) l.length (pce d) ∧ W.grownBy wr2 (some g))
     case atStart =>
      refine ⟨kp + 1, 0, l, by go_num, rfl, by omega, by omega, by omega, rfl, ?_, HW.out.1.drew, ⟨HW.out.2.os, HW.out.2.tape, HW.out.2.output, HW.out.2.size, HW.out.2.block⟩⟩
      show _ ∧ _
      refine ⟨?_, fun j _ => rfl⟩
      have h3 : (l.take (kp + 1)).getLast? = some q := by
       rw [List.getLast?_eq_getElem?, List.length_take, Nat.min_eq_left (by omega), List.getElem?_take, if_pos (by omega), hqp]
       exact HP.out.1
      have h4 : l.take (kp + 1 + (0 + 1)) = l.take (kp + 1) ++ [q] := by
       rw [show kp + 1 + (0 + 1) = (kp + 1) + 1 by omega, List.take_add_one, HP.out.2]; rfl
      rw [h4, cpt_snoc, if_pos h3]
      refine (cpt_id _ fun j x y h1 h3 => ?_).symm
      rw [List.getElem?_take] at h1 h3
      split at h3
      ·rw [if_pos (by omega)] at h1
       exact HA.out j x y (by omega) h1 h3
      ·cases h3
     case round =>
      clear HW
      obtain ⟨kk, k2, d, rfl, rfl, hk3, hk4, hgg, hdl, HD, hwn, hgr⟩ := hrel
      by_cases hlt2 : kp + 1 + (k2 + 1) < l.length
      ·have hp : d[kp + 1 + k2]? = some (d[kp + 1 + k2]'(by omega)) := List.getElem?_eq_getElem (by omega)
       generalize d[kp + 1 + k2]'(by omega) = x at hp
       have hq : d[kp + 1 + (k2 + 1)]? = some (d[kp + 1 + (k2 + 1)]'(by omega)) := List.getElem?_eq_getElem (by omega)
       generalize d[kp + 1 + (k2 + 1)]'(by omega) = y at hq
       obtain ⟨cp, cp'⟩ := cel2_at (fun p : Pt => rt p.1) (fun p : Pt => rt p.2) hp
       obtain ⟨cq, cq'⟩ := cel2_at (fun p : Pt => rt p.1) (fun p : Pt => rt p.2) hq
       rw [← hwn.cellAt _ (by omega), show (kp + 1 + k2) * 2 = (kp + 1) * 2 + k2 * 2 by omega] at cp cp'
       rw [← hwn.cellAt _ (by omega), show (kp + 1 + (k2 + 1)) * 2 = (kp + 1) * 2 + (k2 + 1) * 2 by omega] at cq cq'
       have jz : (k2 : Int) + 1 < (l.length : Int) - ((kp : Int) + 1) := by omega
       have hnn : (↑(l.length - (kp + 1)) : Int) = (l.length : Int) - ((kp : Int) + 1) := by omega
       have he := Tryz.neqPt y x
       have HX : Hid (d[kp + 1 + k2]? = some x ∧ d[kp + 1 + (k2 + 1)]? = some y) := ⟨hp, hq⟩
       have HD2 : Hid (d.length = l.length) := hdl
       clear hp hq hdl
       have HC2 : Hid (cpt (l.take (kp + 1 + (k2 + 1 + 1))) = if y = x then cpt (l.take (kp + 1 + (k2 + 1))) else cpt (l.take (kp + 1 + (k2 + 1))) ++ [y]) := by
        show _ = _
        have e1 := (HD.out.2 _ (by omega)).symm.trans HX.out.1
        have e2 := (HD.out.2 _ (by omega)).symm.trans HX.out.2
        have h3 : (l.take (kp + 1 + (k2 + 1))).getLast? = some x := by
         rw [List.getLast?_eq_getElem?, List.length_take, Nat.min_eq_left (by omega), List.getElem?_take, if_pos (by omega), show kp + 1 + (k2 + 1) - 1 = kp + 1 + k2 by omega]
         exact e1
        rw [show kp + 1 + (k2 + 1 + 1) = (kp + 1 + (k2 + 1)) + 1 by omega, List.take_add_one, e2]
        show cpt (_ ++ [y]) = _
        rw [cpt_snoc, h3]
        by_cases e : y = x
        ·rw [if_pos (by rw [e]), if_pos e]
        ·rw [if_neg (fun h => e (Option.some.inj h).symm), if_neg e]
       have HW : Hid (wr.ownsRow w0.heap.size 36 2 (.slice (some ⟨g, 0, none⟩) l.length cap) l.length (pce d) ∧ W.grownBy wr (some g)) := ⟨hwn, hgr⟩
       have w1 : IntKind.i64.wrap (k2 : Int) = (k2 : Int) := by rw [IntKind.wrap_i64]; omega
       have w2 : IntKind.i64.wrap ((k2 : Int) + 1 + 1) = (k2 : Int) + 1 + 1 := by rw [IntKind.wrap_i64]; omega
       have j2 : (k2 : Int) < (l.length : Int) - ((kp : Int) + 1) := by omega
       have j3 : (kk : Int) < (l.length : Int) := by omega
       clear hwn hgr
       by_cases hyx : y = x
       ·have ed2 : decide (y = x) = true := decide_eq_true hyx
        rw [ed2] at he
        go_wp2_with fail
        go_big_region_o
        all_goals go_wp2
        go_roundg (l.length - (kp + 1 + (k2 + 1 + 1)))
        case measure => omega
        case rel =>
         have h4 := HC2.out
         rw [if_pos hyx] at h4
         exact ⟨kk, k2 + 1, d, rfl, by go_num, by omega, by omega, by omega, HD2.out, (show _ ∧ _ from ⟨by rw [h4]; exact HD.out.1, HD.out.2⟩), HW.out.1.drew, ⟨HW.out.2.os, HW.out.2.tape, HW.out.2.output, HW.out.2.size, HW.out.2.block⟩⟩
       ·have ed2 : decide (y = x) = false := decide_eq_false hyx
        rw [ed2] at he
        obtain ⟨z, hz⟩ : ∃ z, d[kk]? = some z := ⟨_, List.getElem?_eq_getElem (by have := HD2.out; omega)⟩
        obtain ⟨cz, cz'⟩ := cel2_at (fun p : Pt => rt p.1) (fun p : Pt => rt p.2) hz
        rw [← HW.out.1.cellAt _ (by omega)] at cz cz'
        have f1 := HW.out.1.frozenAt (kk * 2)
        have f2 := HW.out.1.frozenAt (kk * 2 + 1)
        go_wp2_with fail
        go_big_region_o
        all_goals go_wp2
        go_roundg (l.length - (kp + 1 + (k2 + 1 + 1)))
        case measure => omega
        case rel =>
         have h4 := HC2.out
         rw [if_neg hyx] at h4
         have st1 := HW.out.1.drew.stored (kk * 2) (.string ⟨(rt y.1).toArray⟩)
         have st2 := st1.1.drew.stored (kk * 2 + 1) (.string ⟨(rt y.2).toArray⟩)
         have g2 := gbq_trans (gbq_trans HW.out.2.dr st1.2.dr) st2.2.dr
         rw [pce_set d kk y (by have := HD2.out; omega)] at st2
         refine ⟨kk + 1, k2 + 1, d.set kk y, by go_num, by go_num, by omega, by omega, by omega, by rw [List.length_set]; exact HD2.out, (show _ ∧ _ from ⟨?_, fun j hj => ?_⟩), st2.1, ⟨g2.os, g2.tape, g2.output, g2.size, g2.block⟩⟩
         ·rw [h4, ← HD.out.1, List.take_add_one, List.take_set_of_le (Nat.le_refl _), List.getElem?_set_self (by have := HD2.out; omega)]
          rfl
         ·rw [List.getElem?_set_ne (by omega)]
          exact HD.out.2 j (by omega)
      ·have hend : kp + 1 + (k2 + 1) = l.length := by omega
       have hkl : kk < l.length := by omega
       obtain ⟨w2, hcl2, hw2, hg2'⟩ := clear_row2 (P := Tryz.prog) t0 v1 rfl (by simp [Value.cells, Value.oneCell']) hwn hkl
       have HE : Hid (kp + 1 + (k2 + 1) = l.length) := hend
       clear hend
       go_wp2
       go_ret
       have h5 := HD.out.1
       rw [HE.out, List.take_length] at h5
       have h6 : (cpt l).length = kk := by rw [← h5, List.length_take]; omega
       have hgr2 := gbq_trans hgr hg2'
       refine ⟨.slice (some ⟨g, 0, none⟩) kk cap, rfl, ?_, hgr2, hbw.grown hgr2 hbw.size (fun k hk => by cases hk; exact hg1)⟩
       rw [h6, ← h5]
       rw [cel2_take _ _ d kk (by omega)] at hw2
       exact hw2
    ·have ed : decide (q = p) = false := decide_eq_false hqp
     rw [ed] at he
     go_wp2_with fail
     go_big_region_o
     all_goals go_wp2
     go_roundg (l.length - (kp + 2))
     case measure => omega
     case rel =>
      refine ⟨kp + 2, by go_num, by omega, by omega, by omega, (show Hid _ from fun j x y h1 h3 h4 => ?_), HW.out.1.drew, HW.out.2.dr⟩
      by_cases e : j = kp
      ·subst e
       rw [HP.out.1] at h3; rw [HP.out.2] at h4
       cases h3; cases h4
       exact fun e => hqp e.symm
      ·exact HA.out j x y (by omega) h3 h4
   ·obtain rfl : k = l.length := by omega
    have hltz : ¬(l.length : Int) < (l.length : Int) := by omega
    have HC : Hid (cpt l = l) := cpt_id l fun j x y h1 h3 => HA.out j x y (List.getElem?_eq_some_iff.1 h3).1 h1 h3
    go_wp2
    go_ret
    refine ⟨.slice (some ⟨g, 0, none⟩) l.length cap, rfl, by rw [HC.out]; exact hwn, hgr, hbw.grown hgr hbw.size (fun k hk => by cases hk; exact hg1)⟩
end Go.Proofs

/-
 POLYLINE: the law's without, Same. Own work.
-/
namespace Go.Proofs
open Go Go.Pi Go.RowKit Go.Ar Go.Ge

set_option maxHeartbeats 4000000 in
theorem Tryz.lsame (a b : List Pt) (ha : a.length ≤ 1000) (hb : b.length ≤ 1000) : Con Tryz.prog Tryz.L 10 [chn a, chn b] (.bool (decide (a = b))) := by
 refine rule10 Tryz.hL rfl rfl rfl ?_
 (simp only [pc10, rs10, oU, oC]; refine ev ?_; try exact ⟨⟩)
 refine ⟨fun h => ?_, fun h => ?_⟩
 ·rw [decide_eq_false (fun e => h (by rw [e]))]
 ·have hlen : a.length = b.length := by omega
  refine loopF_of (fun E => ∃ k : Nat, k ≤ a.length ∧ a.take k = b.take k ∧ E = [(0, chn a), (1, chn b), (5, .int .i64 k)])
   (fun E => match lk E 5 with | .int _ i => a.length - i.toNat | _ => 0) ⟨0, by omega, rfl, rfl⟩ ?_
  rintro _ ⟨k, hk, heq, rfl⟩
  simp only [evX, evY, evZ, forall_const, implies_true, initE, stepF, D.clean, mvF, moF, tkF, shF, ariF, ciF, catF, scF, ebF, eqF, eqOk, eqPr, enF, notF, ngF, cvF, csF, csbF, lenF, lenSF, ixF, iaF, PX.slot, iaAF, faF, ldF, D.mem, stF, bxF, mkSF, boundF, fldF, ixAF, mmF2, D.plain, D.isPure, optAll, D.dull, callVF, splice, D.cells, D.one, sets, resT, D.flat, D.flat0, D.simple, Nat.reduceBNe, Nat.reduceLT, reduceIte, Nat.reduceEqDiff, Nat.reduceAdd, Nat.reduceMul, Nat.reduceSub, Nat.reduceLeDiff, Int.reduceToNat, Int.reduceLT, Int.reduceLE, Int.reduceEq, Int.reduceNeg, Int.reduceSub, Int.reduceAdd, Int.reduceMul, stG_own, ldC_pts]
  refine ⟨fun h1 => ?_, fun h1 => ?_⟩
  ·have hx : a[k]? = some (a[k]'(by omega)) := List.getElem?_eq_getElem (by omega)
   have hy : b[k]? = some (b[k]'(by omega)) := List.getElem?_eq_getElem (by omega)
   generalize a[k]'(by omega) = x at hx
   generalize b[k]'(by omega) = y at hy
   refine ⟨⟨by omega, by omega, by rw [pts_len]; omega⟩, x, hx, ⟨by omega, by omega, by rw [pts_len]; omega⟩, y, hy, eqOk_pt x y, fun h2 => ?_, fun h2 => ?_⟩
   ·rw [decide_eq_false (fun e => h2 ((eq_pt x y).2 (by rw [e, hy] at hx; exact (Option.some.inj hx).symm)))]
   ·have e := (eq_pt x y).1 (Classical.not_not.1 h2)
    exact ⟨⟨by omega, by omega⟩, ⟨k + 1, by omega, by rw [List.take_add_one, List.take_add_one, heq, hx, hy, e], by simp⟩, by omega⟩
  ·have e : k = a.length := by omega
   rw [e, List.take_length] at heq
   rw [hlen, List.take_length] at heq
   rw [decide_eq_true heq]
end Go.Proofs

/-
 POLYLINE: the law PolylineSplits, given Split. Own work.
-/
namespace Go.Proofs
open Go Go.Pi Go.RowKit Go.Ar Go.Ge Go.Sp

/-- what Split returns -/
noncomputable def splR (a b : List Pt) : D := if ovC (mP a b) (a.length - 1) (b.length - 1) = true then .tup [.sl 0 [], .int .i64 7]
 else .tup [.sl (partsA a (outC (mP a b) (b.length - 1) (a.length - 1))).length ((partsA a (outC (mP a b) (b.length - 1) (a.length - 1))).map fun l => chn l), .int .i64 0]
def Tryz.SplitOk : Prop := ∀ a b : List Pt, a.length ≤ 10 → b.length ≤ 10 → (∀ p ∈ a, Sz 2 p) → (∀ p ∈ b, Sz 2 p) → good a = true → good b = true → Con Tryz.prog Tryz.L 7 [chn a, chn b] (splR a b)
/-- how many points -/
def dln : D → Nat
 | .sl n _ => n - 1
 | _ => 0
def ptN (E : Env) : Nat := (match lk E 11 with | .own _ _ _ cs => (cs.map dln).sum | _ => 0) + (match lk E 12 with | .own _ _ n _ => n | _ => 0)
theorem rtp (p q : Pt) : (rt p.1 = rt q.1 ∧ rt p.2 = rt q.2) ↔ p = q := by
 constructor
 ·rintro ⟨h1, h2⟩; exact Prod.ext (rt_inj h1) (rt_inj h2)
 ·rintro rfl; exact ⟨rfl, rfl⟩
theorem pts_snoc2 (l : List Pt) (x : Pt) : pts l ++ [D.str (rt x.1), D.str (rt x.2)] = pts (l ++ [x]) := (rows_snoc).symm
theorem cut_map (out : List (List Pt)) (part : List Pt) (x : Pt) : (out.map fun l => chn l) ++ [D.sl (part.length + 1) (pts part ++ [D.str (rt x.1), D.str (rt x.2)])] = (out ++ [part ++ [x]]).map fun l => chn l := by
 rw [pts_snoc2]; simp
theorem add_own (e : Nat) (part : List Pt) (x : Pt) : ((12, D.own true e (part.length + 1) (pts part ++ [D.str (rt x.1), D.str (rt x.2)])) : Nat × D) = (12, D.own true e (part ++ [x]).length (pts (part ++ [x]))) := by
 rw [pts_snoc2]; simp
theorem cut_own (e : Nat) (out : List (List Pt)) (part : List Pt) (x : Pt) : ((11, D.own true e (out.length + 1) ((out.map fun l => chn l) ++ [D.sl (part.length + 1) (pts part ++ [D.str (rt x.1), D.str (rt x.2)])])) : Nat × D) = (11, D.own true e (out ++ [part ++ [x]]).length ((out ++ [part ++ [x]]).map fun l => chn l)) := by
 rw [cut_map]; simp
theorem sum_mem {x : List Pt} : ∀ {l : List (List Pt)}, x ∈ l → x.length - 1 ≤ ((l.map fun l => chn l).map dln).sum
 | y :: l, h => by
   rcases List.mem_cons.1 h with rfl | h
   ·simp [dln]
   ·have := sum_mem h
    simp only [List.map_cons, List.sum_cons]; omega
theorem lnear_snoc (i : Nat) (s : Pt) (l : List (Nat × Nat × Pt)) (x : Nat × Nat × Pt) (st : Pt × Bool) : lnear i s (l ++ [x]) st = @ite _ (x.1 = i ∧ x.2.2 ≠ s ∧ btw s (lnear i s l st).1 x.2.2) (Classical.propDecidable _) (x.2.2, true) (lnear i s l st) := by
 unfold lnear; rw [List.foldl_append]; rfl
theorem goS_succ {r : Pt → Pt → Prop} [DecidableRel r] (b : Pt) (cuts : List Pt) (f : Nat) (out : List (List Pt)) (part : List Pt) (s : Pt) {nx : Pt} {fd : Bool} (h : nearS r s cuts (b, false) = (nx, fd)) :
  goS r b cuts (f + 1) out part s = if nx = s then (out, part) else if nx = b then (if fd then (out ++ [part ++ [nx]], [nx]) else (out, part ++ [nx])) else (if fd then goS r b cuts f (out ++ [part ++ [nx]]) [nx] nx else goS r b cuts f out (part ++ [nx]) nx) := by
 simp only [goS, h]
/-- the points of the parts, as the walk counts them -/
def tN (out : List (List Pt)) (part : List Pt) : Nat := ((out.map fun l => chn l).map dln).sum + part.length
theorem tN_cut (out : List (List Pt)) (part : List Pt) (x : Pt) : tN (out ++ [part ++ [x]]) [x] = tN out part + 1 := by
 unfold tN; simp [dln]
theorem tN_add (out : List (List Pt)) (part : List Pt) (x : Pt) : tN out (part ++ [x]) = tN out part + 1 := by
 unfold tN; simp; omega
set_option maxRecDepth 100000 in
set_option maxHeartbeats 16000000 in
theorem Tryz.polySplits (hS : Tryz.SplitOk) (l m : List Q8) (hl : l.length ≤ 1048576) (hm : m.length ≤ 1048576) (ql : ∀ p ∈ l, okQ p) (qm : ∀ p ∈ m, okQ p) : Con Tryz.prog Tryz.L 3 [.sl l.length (q8s l), .sl m.length (q8s m)] (.bool true) := by
 have pl := Tryz.lpoints1 l hl ql
 have pm := Tryz.lpoints1 m hm qm
 have zl : ∀ p ∈ ptsO l 1, Sz 1 p := sz_ptsO (.inl rfl) l
 have zm : ∀ p ∈ ptsO m 1, Sz 1 p := sz_ptsO (.inl rfl) m
 have ll := ptsO_len l 1
 have lm := ptsO_len m 1
 refine rule3 Tryz.hL rfl rfl rfl ?_
 (simp only [pc3, rs3, oU, oC]; refine ev ?_; try exact ⟨⟩)
 refine callF_of Tryz.known11 ?_
 (refine ev ?_; try exact ⟨⟩)
 generalize ptsO l 1 = a at *
 generalize ptsO m 1 = b at *
 refine ⟨fun h1 => ⟨fun h2 => ?_, fun h2 => ?_⟩, fun h1 => ?_⟩
 ·refine callF_of Tryz.known11 ?_
  (refine ev ?_; try exact ⟨⟩)
 ·refine callF_of pl ?_
  (refine ev ?_; try exact ⟨⟩)
  refine callF_of pm ?_
  (refine ev ?_; try exact ⟨⟩)
  refine callF_of (Tryz.lcheck a false (by omega) (fun p hp => (zl p hp).more (by decide))) ?_
  (refine ev ?_; try exact ⟨⟩)
  intro h3
  have hga : good a = true := good_iff.2 (Classical.not_not.1 h3)
  refine callF_of (Tryz.lcheck b false (by omega) (fun p hp => (zm p hp).more (by decide))) ?_
  (refine ev ?_; try exact ⟨⟩)
  intro h4
  have hgb : good b = true := good_iff.2 (Classical.not_not.1 h4)
  have la := good_len hga
  have lb := good_len hgb
  have za : ∀ p ∈ a, Sz 2 p := fun p hp => (zl p hp).more (by decide)
  have zb : ∀ p ∈ b, Sz 2 p := fun p hp => (zm p hp).more (by decide)
  have hM := mP_mL hga hgb
  have cp := hS a b (by omega) (by omega) za zb hga hgb
  have cl := Tryz.lcrossings a b (by omega) (by omega) za zb la lb
  unfold splR at cp
  unfold crL at cl
  rw [← ovC_congr hM, ← outC_congr hM] at cl
  have hle := outC_len (mP a b) (b.length - 1) (a.length - 1)
  have hle2 : (a.length - 1) * (b.length - 1) ≤ 9 * 9 := Nat.mul_le_mul (by omega) (by omega)
  have hon : ∀ x ∈ outC (mP a b) (b.length - 1) (a.length - 1), btw (gt a x.1) (gt a (x.1 + 1)) x.2.2 := by rw [outC_congr hM]; exact out_on
  have hos : ∀ x ∈ outC (mP a b) (b.length - 1) (a.length - 1), Sz 100 x.2.2 := fun x hx => by
   obtain ⟨k1, k2, k3⟩ := outC_mem hx
   exact sz_meetP (gt_sz za (by omega)) (gt_sz za (by omega)) (gt_sz zb (by omega)) (gt_sz zb (by omega)) k3
  generalize outC (mP a b) (b.length - 1) (a.length - 1) = o at *
  cases hov : ovC (mP a b) (a.length - 1) (b.length - 1) with
  | true =>
    rw [hov, if_pos rfl] at cp cl
    refine callF_of cp ?_
    (refine ev ?_; try exact ⟨⟩)
    refine callF_of cl ?_
    (refine ev ?_; try exact ⟨⟩)
    exact fun h => h rfl
  | false =>
    rw [hov, if_neg (by decide)] at cp cl
    refine callF_of cp ?_
    (refine ev ?_; try exact ⟨⟩)
    refine callF_of cl ?_
    (refine ev ?_; try exact ⟨⟩)
    have hA : ∀ j, j < a.length → a[j]? = some (gt a j) := fun j hj => by
     rw [List.getElem?_eq_getElem hj]; simp [gt, List.getD_eq_getElem?_getD, hj]
    simp only [ldC_pts0]
    refine ⟨⟨by omega, by rw [pts_len]; omega⟩, gt a 0, hA 0 (by omega), ?_⟩
    simp only [pD, evX, evY, evZ, forall_const, implies_true, initE, stepF, D.clean, mvF, moF, tkF, shF, ariF, ciF, catF, scF, ebF, eqF, eqOk, eqPr, enF, notF, ngF, cvF, csF, csbF, lenF, lenSF, ixF, iaF, PX.slot, iaAF, faF, ldF, D.mem, stF, bxF, mkSF, boundF, fldF, ixAF, mmF2, D.plain, D.isPure, optAll, D.dull, callVF, splice, D.cells, D.one, sets, resT, D.flat, D.flat0, D.simple, Nat.reduceBNe, Nat.reduceLT, reduceIte, Nat.reduceEqDiff, Nat.reduceAdd, Nat.reduceMul, Nat.reduceSub, Nat.reduceLeDiff, Int.reduceToNat, Int.reduceLT, Int.reduceLE, Int.reduceEq, Int.reduceNeg, Int.reduceSub, Int.reduceAdd, Int.reduceMul, stG_own]
    refine loopF_of (fun E => ∃ i : Nat, i ≤ a.length - 1 ∧ tN (partsK a o i).1 (partsK a o i).2 ≤ i * (o.length + 2) + 1 ∧ (partsK a o i).1.length ≤ i * (o.length + 2) + 1 ∧ E = [(5, chn a), (7, .sl (partsA a o).length ((partsA a o).map fun l => chn l)), (8, .int .i64 0), (9, .sl o.length (crl o)), (11, .own true 24 (partsK a o i).1.length ((partsK a o i).1.map fun l => chn l)), (12, .own true 36 (partsK a o i).2.length (pts (partsK a o i).2)), (13, .int .i64 i)])
     (fun E => match lk E 13 with | .int _ i => a.length - i.toNat | _ => 0) ⟨0, by omega, by simp [tN, partsK], by simp [partsK], rfl⟩ ?_
    rintro _ ⟨i, hi, hT, hO, rfl⟩
    (refine ev ?_; try exact ⟨⟩)
    refine ⟨⟨by omega, by omega⟩, fun hil => ?_, fun hig => ?_⟩
    ·have hab := good_ne hga (j := i) (by omega)
     have hA1 := hA (i + 1) (by omega)
     have hz0 : Sz 100 (gt a i) := (gt_sz za (by omega)).more (by decide)
     have hz1 : Sz 100 (gt a (i + 1)) := (gt_sz za (by omega)).more (by decide)
     have hgo := parts_go (a := a) (xs := o) (k := i) hab (fun x hx hk => by rw [← hk]; exact hon x hx) (Nat.lt_succ_self _)
     have hlast := parts_last a o i
     have hlast1 := parts_last a o (i + 1)
     have hoi : ∀ x ∈ o, x.1 = i → onS (gt a i) (gt a (i + 1)) x.2.2 := fun x hx hk => by rw [← hk]; exact btw_onS.1 (hon x hx)
     have hsA : onS (gt a i) (gt a (i + 1)) (gt a i) := ⟨0, by decide, by decide, by grind, by grind⟩
     have hsB : onS (gt a i) (gt a (i + 1)) (gt a (i + 1)) := ⟨1, by decide, by decide, by grind, by grind⟩
     have hrb : ∀ s, onS (gt a i) (gt a (i + 1)) s → rD (gt a i) (gt a (i + 1)) s (gt a (i + 1)) := fun s hs => (ends_rD hab (btw_onS.2 hs)).2
     have him : i * (o.length + 2) ≤ 9 * 83 := Nat.mul_le_mul (by omega) (by omega)
     have hgl : ∀ out part, goS (rD (gt a i) (gt a (i + 1))) (gt a (i + 1)) (onI i o) 0 out part = fun _ => (out, part) := fun _ _ => rfl
     generalize hK : partsK a o i = K0 at *
     obtain ⟨out0, part0⟩ := K0
     simp only at hT hO hgo
     refine loopF_of (fun E => ∃ (f : Nat) (out : List (List Pt)) (part : List Pt) (s : Pt), goS (rD (gt a i) (gt a (i + 1))) (gt a (i + 1)) (onI i o) f out part s = partsK a o (i + 1) ∧ part.getLast? = some s ∧ s ≠ gt a (i + 1) ∧ onS (gt a i) (gt a (i + 1)) s ∧ Sz 100 s ∧ f + tN out part = tN out0 part0 + (o.length + 1) ∧ out.length + f ≤ out0.length + (o.length + 1) ∧ ∃ ext : Env, (ext = [(72, .bool (dB ((i : Int) + 1 < (a.length : Int))))] ∨ ∃ bb : Bool, ext = [(141, .bool bb)]) ∧
      E = [(5, chn a), (7, .sl (partsA a o).length ((partsA a o).map fun l => chn l)), (8, .int .i64 0), (9, .sl o.length (crl o)), (11, .own true 24 out.length (out.map fun l => chn l)), (12, .own true 36 part.length (pts part)), (13, .int .i64 i)] ++ ext)
      (fun E => tN out0 part0 + (o.length + 1) - ptN E) ⟨o.length + 1, out0, part0, gt a i, hgo, hlast, hab, hsA, hz0, by omega, by omega, _, .inl rfl, rfl⟩ ?_
     rintro _ ⟨f, out, part, s, hgs, hls, hsb, hsS, hsz, hfT, hfO, ext, hext, rfl⟩
     cases f with
     | zero =>
       exfalso
       have e : (out, part) = partsK a o (i + 1) := hgs
       rw [← e] at hlast1
       exact hsb (Option.some.inj (hls.symm.trans hlast1))
     | succ f =>
     have hpl : part.length ≤ tN out part := by unfold tN; omega
     have hp0 : 0 < part.length := List.length_pos_iff.2 fun e => by rw [e] at hls; cases hls
     have hpk : part[part.length - 1]? = some s := by rw [← List.getLast?_eq_getElem?]; exact hls
     have hidx : ((part.length : Int) - 1).toNat = part.length - 1 := by omega
     have hpm : part.length ≤ 1000 := by omega
     have hom : out.length ≤ 2000 := by omega
     rcases hext with rfl | ⟨bb, rfl⟩
     all_goals (
      simp only [List.cons_append, List.nil_append, ldC_pts, evX, evY, evZ, forall_const, implies_true, initE, stepF, D.clean, mvF, moF, tkF, shF, ariF, ciF, catF, scF, ebF, eqF, eqOk, eqPr, enF, notF, ngF, cvF, csF, csbF, lenF, lenSF, ixF, iaF, PX.slot, iaAF, faF, ldF, D.mem, stF, bxF, mkSF, boundF, fldF, ixAF, mmF2, D.plain, D.isPure, optAll, D.dull, callVF, splice, D.cells, D.one, sets, resT, D.flat, D.flat0, D.simple, Nat.reduceBNe, Nat.reduceLT, reduceIte, Nat.reduceEqDiff, Nat.reduceAdd, Nat.reduceMul, Nat.reduceSub, Nat.reduceLeDiff, Int.reduceToNat, Int.reduceLT, Int.reduceLE, Int.reduceEq, Int.reduceNeg, Int.reduceSub, Int.reduceAdd, Int.reduceMul, stG_own]
      refine ⟨⟨by omega, by omega⟩, ⟨by omega, by omega, by rw [pts_len]; omega⟩, gt a (i + 1), by rw [show ((i : Int) + 1).toNat = i + 1 by omega]; exact hA1, ?_⟩
      simp only [pD, evX, evY, evZ, forall_const, implies_true, initE, stepF, D.clean, mvF, moF, tkF, shF, ariF, ciF, catF, scF, ebF, eqF, eqOk, eqPr, enF, notF, ngF, cvF, csF, csbF, lenF, lenSF, ixF, iaF, PX.slot, iaAF, faF, ldF, D.mem, stF, bxF, mkSF, boundF, fldF, ixAF, mmF2, D.plain, D.isPure, optAll, D.dull, callVF, splice, D.cells, D.one, sets, resT, D.flat, D.flat0, D.simple, Nat.reduceBNe, Nat.reduceLT, reduceIte, Nat.reduceEqDiff, Nat.reduceAdd, Nat.reduceMul, Nat.reduceSub, Nat.reduceLeDiff, Int.reduceToNat, Int.reduceLT, Int.reduceLE, Int.reduceEq, Int.reduceNeg, Int.reduceSub, Int.reduceAdd, Int.reduceMul, stG_own]
      refine loopF_of (fun E => ∃ (k : Nat) (nx : Pt) (fd : Bool), k ≤ o.length ∧ lnear i s (o.take k) (gt a (i + 1), false) = (nx, fd) ∧ onS (gt a i) (gt a (i + 1)) nx ∧ Sz 100 nx ∧
       E = [(5, chn a), (7, .sl (partsA a o).length ((partsA a o).map fun l => chn l)), (8, .int .i64 0), (9, .sl o.length (crl o)), (11, .own true 24 out.length (out.map fun l => chn l)), (12, .own true 36 part.length (pts part)), (13, .int .i64 i), (14, .box true [.str (rt nx.1), .str (rt nx.2)]), (15, .bool fd), (80, .sl o.length (crl o)), (81, .int .i64 o.length), (82, .int .i64 k)])
       (fun E => match lk E 82 with | .int _ i => o.length - i.toNat | _ => 0) ⟨0, gt a (i + 1), false, by omega, rfl, hsB, hz1, rfl⟩ ?_
      rintro _ ⟨k, nx, fd, hk, hnr, hnS, hnz, rfl⟩
      simp only [ldC_crl, evX, evY, evZ, forall_const, implies_true, initE, stepF, D.clean, mvF, moF, tkF, shF, ariF, ciF, catF, scF, ebF, eqF, eqOk, eqPr, enF, notF, ngF, cvF, csF, csbF, lenF, lenSF, ixF, iaF, PX.slot, iaAF, faF, ldF, D.mem, stF, bxF, mkSF, boundF, fldF, ixAF, mmF2, D.plain, D.isPure, optAll, D.dull, callVF, splice, D.cells, D.one, sets, resT, D.flat, D.flat0, D.simple, Nat.reduceBNe, Nat.reduceLT, reduceIte, Nat.reduceEqDiff, Nat.reduceAdd, Nat.reduceMul, Nat.reduceSub, Nat.reduceLeDiff, Int.reduceToNat, Int.reduceLT, Int.reduceLE, Int.reduceEq, Int.reduceNeg, Int.reduceSub, Int.reduceAdd, Int.reduceMul, stG_own]
      refine ⟨fun hkl => ?_, fun hkg => ?_⟩
      ·have hx : o[k]? = some (o[k]'(by omega)) := List.getElem?_eq_getElem (by omega)
       generalize o[k]'(by omega) = x at hx
       have hxo := List.mem_of_getElem? hx
       have hsn : lnear i s (o.take (k + 1)) (gt a (i + 1), false) = @ite _ (x.1 = i ∧ x.2.2 ≠ s ∧ btw s nx x.2.2) (Classical.propDecidable _) (x.2.2, true) (nx, fd) := by
        rw [List.take_add_one, hx, Option.toList_some, lnear_snoc, hnr]
       have hbt := Tryz.lbetween s nx x.2.2 (hsz.more (by decide)) (hnz.more (by decide)) ((hos x hxo).more (by decide))
       refine ⟨⟨by omega, by omega, by rw [crl_len]; omega⟩, x, hx, ?_⟩
       simp only [crD, ldC_ptsO, evX, evY, evZ, forall_const, implies_true, initE, stepF, D.clean, mvF, moF, tkF, shF, ariF, ciF, catF, scF, ebF, eqF, eqOk, eqPr, enF, notF, ngF, cvF, csF, csbF, lenF, lenSF, ixF, iaF, PX.slot, iaAF, faF, ldF, D.mem, stF, bxF, mkSF, boundF, fldF, ixAF, mmF2, D.plain, D.isPure, optAll, D.dull, callVF, splice, D.cells, D.one, sets, resT, D.flat, D.flat0, D.simple, Nat.reduceBNe, Nat.reduceLT, reduceIte, Nat.reduceEqDiff, Nat.reduceAdd, Nat.reduceMul, Nat.reduceSub, Nat.reduceLeDiff, Int.reduceToNat, Int.reduceLT, Int.reduceLE, Int.reduceEq, Int.reduceNeg, Int.reduceSub, Int.reduceAdd, Int.reduceMul, stG_own]
       simp only [ptD] at hbt
       have hstep : ¬(x.1 = i ∧ x.2.2 ≠ s ∧ btw s nx x.2.2) → lnear i s (o.take (k + 1)) (gt a (i + 1), false) = (nx, fd) := fun h => by rw [hsn, if_neg h]
       refine ⟨fun hxi => ⟨⟨by omega, by omega⟩, ⟨by omega, by omega, by rw [pts_len]; omega⟩, s, by rw [hidx]; exact hpk, by simp [eqOk, pD], fun hne => ?_, fun heq => ?_⟩, fun hxi => ?_⟩
       ·refine ⟨⟨by omega, by omega⟩, ⟨by omega, by omega, by rw [pts_len]; omega⟩, s, by rw [hidx]; exact hpk, ?_⟩
        simp only [pD, evX, evY, evZ, forall_const, implies_true, initE, stepF, D.clean, mvF, moF, tkF, shF, ariF, ciF, catF, scF, ebF, eqF, eqOk, eqPr, enF, notF, ngF, cvF, csF, csbF, lenF, lenSF, ixF, iaF, PX.slot, iaAF, faF, ldF, D.mem, stF, bxF, mkSF, boundF, fldF, ixAF, mmF2, D.plain, D.isPure, optAll, D.dull, callVF, splice, D.cells, D.one, sets, resT, D.flat, D.flat0, D.simple, Nat.reduceBNe, Nat.reduceLT, reduceIte, Nat.reduceEqDiff, Nat.reduceAdd, Nat.reduceMul, Nat.reduceSub, Nat.reduceLeDiff, Int.reduceToNat, Int.reduceLT, Int.reduceLE, Int.reduceEq, Int.reduceNeg, Int.reduceSub, Int.reduceAdd, Int.reduceMul, stG_own]
        refine callF_of hbt ?_
        (refine ev ?_; try exact ⟨⟩)
        have hns : x.2.2 ≠ s := fun e => hne ((eq_pt _ _).2 e)
        by_cases hb6 : btw s nx x.2.2
        ·rw [show decide (btw s nx x.2.2) = true from decide_eq_true hb6]
         (refine ev ?_; try exact ⟨⟩)
         exact ⟨⟨by omega, by omega⟩, ⟨k + 1, x.2.2, true, by omega, by rw [hsn, if_pos ⟨by omega, hns, hb6⟩], hoi x hxo (by omega), hos x hxo, rfl, rfl, by simp⟩, by omega⟩
        ·rw [show decide (btw s nx x.2.2) = false from decide_eq_false hb6]
         (refine ev ?_; try exact ⟨⟩)
         exact ⟨⟨by omega, by omega⟩, ⟨k + 1, nx, fd, by omega, hstep fun h => hb6 h.2.2, hnS, hnz, rfl, rfl, by simp⟩, by omega⟩
       ·have hns : x.2.2 = s := (eq_pt _ _).1 (Classical.not_not.1 heq)
        exact ⟨⟨by omega, by omega⟩, ⟨k + 1, nx, fd, by omega, hstep fun h => h.2.1 hns, hnS, hnz, rfl, rfl, by simp⟩, by omega⟩
       ·exact ⟨⟨by omega, by omega⟩, ⟨k + 1, nx, fd, by omega, hstep fun h => hxi (by rw [h.1]), hnS, hnz, rfl, rfl, by simp⟩, by omega⟩
      ·obtain rfl : k = o.length := by omega
       rw [List.take_length, lnear_eq hsS o hoi _ _ hsB (hrb s hsS)] at hnr
       rw [goS_succ _ _ _ _ _ _ hnr] at hgs
       have hsm : (i + 1) * (o.length + 2) = i * (o.length + 2) + (o.length + 2) := Nat.succ_mul ..
       refine ⟨⟨by omega, by omega⟩, ⟨by omega, by omega, by rw [pts_len]; omega⟩, ?_⟩
       rw [hidx, ldC_ptsO]
       refine ⟨s, hpk, ?_⟩
       have hb1 : tN out part ≤ (i + 1) * (o.length + 2) + 1 := by omega
       have hb2 : tN out part + 1 ≤ (i + 1) * (o.length + 2) + 1 := by omega
       have hb3 : out.length + 1 ≤ (i + 1) * (o.length + 2) + 1 := by omega
       cases fd with
       | false =>
         simp only [pD, ldC_pts, evX, evY, evZ, forall_const, implies_true, initE, stepF, D.clean, mvF, moF, tkF, shF, ariF, ciF, catF, scF, ebF, eqF, eqOk, eqPr, enF, notF, ngF, cvF, csF, csbF, lenF, lenSF, ixF, iaF, PX.slot, iaAF, faF, ldF, D.mem, stF, bxF, mkSF, boundF, fldF, ixAF, mmF2, D.plain, D.isPure, optAll, D.dull, callVF, splice, D.cells, D.one, sets, resT, D.flat, D.flat0, D.simple, Nat.reduceBNe, Nat.reduceLT, reduceIte, Nat.reduceEqDiff, Nat.reduceAdd, Nat.reduceMul, Nat.reduceSub, Nat.reduceLeDiff, Int.reduceToNat, Int.reduceLT, Int.reduceLE, Int.reduceEq, Int.reduceNeg, Int.reduceSub, Int.reduceAdd, Int.reduceMul, stG_own]
         refine ⟨fun he => ?_, fun hne => ?_⟩
         ·have hns : nx = s := (rtp _ _).1 he
          rw [if_pos hns] at hgs
          exact ⟨⟨by omega, by omega⟩, ⟨i + 1, by omega, by rw [← hgs]; exact hb1, by rw [← hgs]; exact Nat.le_of_succ_le hb3, by rw [← hgs], by rw [← hgs], by simp⟩, by omega⟩
         ·rw [if_neg fun e => hne ((rtp _ _).2 e)] at hgs
          refine ⟨by omega, by omega, ⟨by omega, by omega⟩, ⟨by omega, by omega, by rw [pts_len]; omega⟩, gt a (i + 1), by rw [show ((i : Int) + 1).toNat = i + 1 by omega]; exact hA1, fun he => ?_, fun hnb => ?_⟩
          ·rw [if_pos ((rtp _ _).1 he), if_neg (by decide)] at hgs
           exact ⟨⟨by omega, by omega⟩, ⟨i + 1, by omega, by rw [← hgs]; show tN _ _ ≤ _; rw [tN_add]; exact hb2, by rw [← hgs]; exact Nat.le_of_succ_le hb3, by rw [← hgs], by rw [← hgs]; exact add_own .., by simp⟩, by omega⟩
          ·have hnb' : nx ≠ gt a (i + 1) := fun e => hnb ((rtp _ _).2 e)
           rw [if_neg hnb', if_neg (by decide)] at hgs
           refine ⟨⟨f, out, part ++ [nx], nx, hgs, by simp, hnb', hnS, hnz, by rw [tN_add]; omega, by omega, _, .inr ⟨_, rfl⟩, rfl, add_own .., rfl⟩, ?_⟩
           show tN out0 part0 + (o.length + 1) - (((out.map fun l => chn l).map dln).sum + (part.length + 1)) < tN out0 part0 + (o.length + 1) - (((out.map fun l => chn l).map dln).sum + part.length)
           have hu : tN out part = ((out.map fun l => chn l).map dln).sum + part.length := rfl
           omega
       | true =>
         simp only [pD, ldC_pts, evX, evY, evZ, forall_const, implies_true, initE, stepF, D.clean, mvF, moF, tkF, shF, ariF, ciF, catF, scF, ebF, eqF, eqOk, eqPr, enF, notF, ngF, cvF, csF, csbF, lenF, lenSF, ixF, iaF, PX.slot, iaAF, faF, ldF, D.mem, stF, bxF, mkSF, boundF, fldF, ixAF, mmF2, D.plain, D.isPure, optAll, D.dull, callVF, splice, D.cells, D.one, sets, resT, D.flat, D.flat0, D.simple, Nat.reduceBNe, Nat.reduceLT, reduceIte, Nat.reduceEqDiff, Nat.reduceAdd, Nat.reduceMul, Nat.reduceSub, Nat.reduceLeDiff, Int.reduceToNat, Int.reduceLT, Int.reduceLE, Int.reduceEq, Int.reduceNeg, Int.reduceSub, Int.reduceAdd, Int.reduceMul, stG_own]
         refine ⟨fun he => ?_, fun hne => ?_⟩
         ·have hns : nx = s := (rtp _ _).1 he
          rw [if_pos hns] at hgs
          exact ⟨⟨by omega, by omega⟩, ⟨i + 1, by omega, by rw [← hgs]; exact hb1, by rw [← hgs]; exact Nat.le_of_succ_le hb3, by rw [← hgs], by rw [← hgs], by simp⟩, by omega⟩
         ·rw [if_neg fun e => hne ((rtp _ _).2 e)] at hgs
          refine ⟨by omega, by omega, by omega, by omega, ⟨by omega, by omega⟩, ⟨by omega, by omega, by rw [pts_len]; omega⟩, gt a (i + 1), by rw [show ((i : Int) + 1).toNat = i + 1 by omega]; exact hA1, fun he => ?_, fun hnb => ?_⟩
          ·rw [if_pos ((rtp _ _).1 he), if_pos rfl] at hgs
           exact ⟨⟨by omega, by omega⟩, ⟨i + 1, by omega, by rw [← hgs]; show tN _ _ ≤ _; rw [tN_cut]; exact hb2, by rw [← hgs]; simpa using hb3, by rw [← hgs]; exact cut_own .., by rw [← hgs]; rfl, by simp⟩, by omega⟩
          ·have hnb' : nx ≠ gt a (i + 1) := fun e => hnb ((rtp _ _).2 e)
           rw [if_neg hnb', if_pos rfl] at hgs
           refine ⟨⟨f, out ++ [part ++ [nx]], [nx], nx, hgs, rfl, hnb', hnS, hnz, by rw [tN_cut]; omega, by simp; omega, _, .inr ⟨_, rfl⟩, cut_own .., rfl, rfl⟩, ?_⟩
           show tN out0 part0 + (o.length + 1) - ((((out.map fun l => chn l) ++ [D.sl (part.length + 1) (pts part ++ [D.str (rt nx.1), D.str (rt nx.2)])]).map dln).sum + 1) < tN out0 part0 + (o.length + 1) - (((out.map fun l => chn l).map dln).sum + part.length)
           have e : (((out.map fun l => chn l) ++ [D.sl (part.length + 1) (pts part ++ [D.str (rt nx.1), D.str (rt nx.2)])]).map dln).sum = ((out.map fun l => chn l).map dln).sum + part.length := by simp [dln]
           have hu : tN out part = ((out.map fun l => chn l).map dln).sum + part.length := rfl
           rw [e]
           omega)
    ·obtain rfl : i = a.length - 1 := by omega
     have hb9 : (a.length - 1) * (o.length + 2) ≤ 9 * 83 := Nat.mul_le_mul (by omega) (by omega)
     have hPA : partsA a o = if 1 < (partsK a o (a.length - 1)).2.length then (partsK a o (a.length - 1)).1 ++ [(partsK a o (a.length - 1)).2] else (partsK a o (a.length - 1)).1 := rfl
     have hLl : (partsA a o).length ≤ 10000 := by
      rw [hPA]
      split
      ·rw [List.length_append, List.length_singleton]; omega
      ·omega
     have hlb : ∀ x ∈ partsA a o, x.length ≤ 1000 := fun x hx => by
      have h1 : ∀ x ∈ (partsK a o (a.length - 1)).1, x.length ≤ 1000 := fun x hx => by
       have := sum_mem hx
       unfold tN at hT; omega
      rw [hPA] at hx
      split at hx
      ·rcases List.mem_append.1 hx with hx | hx
       ·exact h1 x hx
       ·rw [List.mem_singleton.1 hx]; unfold tN at hT; omega
      ·exact h1 x hx
     have hone : ∀ (k : Nat) (h : k < (partsA a o).length) (t : Nat) (N : EP) (E : Env), ldC false 1 (List.drop k ((partsA a o).map fun l => chn l)) t N E = N (st1 E t (chn ((partsA a o)[k]'h))) := fun k h t N E => by
      have e : List.drop k ((partsA a o).map fun l => chn l) = chn ((partsA a o)[k]'h) :: List.drop (k + 1) ((partsA a o).map fun l => chn l) := by
       rw [List.drop_eq_getElem_cons (by simpa using h)]; simp
      rw [e]
      simp [ldC, ofCells, D.one]
     have htwo : ∀ (k : Nat) (h : k < (partsA a o).length) (t : Nat) (N : EP) (E : Env), ldC false 1 (List.take 1 (List.drop k ((partsA a o).map fun l => chn l))) t N E = N (st1 E t (chn ((partsA a o)[k]'h))) := fun k h t N E => by
      have e : List.drop k ((partsA a o).map fun l => chn l) = chn ((partsA a o)[k]'h) :: List.drop (k + 1) ((partsA a o).map fun l => chn l) := by
       rw [List.drop_eq_getElem_cons (by simpa using h)]; simp
      rw [e]
      simp [ldC, ofCells, D.one]
     refine ⟨fun h5 => ?_, fun h5 => ?_⟩
     ·have e1 : partsA a o = (partsK a o (a.length - 1)).1 ++ [(partsK a o (a.length - 1)).2] := by rw [hPA, if_pos (by omega)]
      have e2 : ((partsK a o (a.length - 1)).1.map fun l => chn l) ++ [D.sl (partsK a o (a.length - 1)).2.length (pts (partsK a o (a.length - 1)).2)] = (partsA a o).map fun l => chn l := by rw [e1]; simp
      have e3 : (partsK a o (a.length - 1)).1.length + 1 = (partsA a o).length := by rw [e1]; simp
      rw [e2, e3]
      refine ⟨by omega, by omega, fun _ => ?_, fun h => h rfl⟩
      clear e1 e2 e3 hPA
      generalize partsA a o = L at *
      refine loopF_of (fun E => ∃ k : Nat, k ≤ L.length ∧ E = [(7, .sl L.length (L.map fun l => chn l)), (11, .own true 24 L.length (L.map fun l => chn l)), (18, .int .i64 k)])
       (fun E => match lk E 18 with | .int _ i => L.length - i.toNat | _ => 0) ⟨0, Nat.zero_le _, rfl⟩ ?_
      rintro _ ⟨k, hk, rfl⟩
      (refine ev ?_; try exact ⟨⟩)
      intro h6
      have hkl : k < L.length := by omega
      have hsame := Tryz.lsame (L[k]'hkl) (L[k]'hkl) (hlb _ (List.getElem_mem hkl)) (hlb _ (List.getElem_mem hkl))
      refine ⟨⟨by omega, by omega, by rw [List.length_map]; omega⟩, ?_⟩
      rw [htwo k hkl]
      (refine ev ?_; try exact ⟨⟩)
      refine ⟨⟨by omega, by omega, by rw [List.length_map]; omega⟩, ?_⟩
      rw [hone k hkl]
      (refine ev ?_; try exact ⟨⟩)
      refine callF_of hsame ?_
      rw [show decide (L[k]'hkl = L[k]'hkl) = true from decide_eq_true rfl]
      (refine ev ?_; try exact ⟨⟩)
      exact ⟨⟨by omega, by omega⟩, ⟨k + 1, by omega, by simp⟩, by omega⟩
     ·have e1 : partsA a o = (partsK a o (a.length - 1)).1 := by rw [hPA, if_neg (by omega)]
      rw [← e1]
      refine ⟨fun _ => ?_, fun h => h rfl⟩
      clear e1 hPA
      generalize partsA a o = L at *
      refine loopF_of (fun E => ∃ k : Nat, k ≤ L.length ∧ E = [(7, .sl L.length (L.map fun l => chn l)), (11, .own true 24 L.length (L.map fun l => chn l)), (18, .int .i64 k)])
       (fun E => match lk E 18 with | .int _ i => L.length - i.toNat | _ => 0) ⟨0, Nat.zero_le _, rfl⟩ ?_
      rintro _ ⟨k, hk, rfl⟩
      (refine ev ?_; try exact ⟨⟩)
      intro h6
      have hkl : k < L.length := by omega
      have hsame := Tryz.lsame (L[k]'hkl) (L[k]'hkl) (hlb _ (List.getElem_mem hkl)) (hlb _ (List.getElem_mem hkl))
      refine ⟨⟨by omega, by omega, by rw [List.length_map]; omega⟩, ?_⟩
      rw [htwo k hkl]
      (refine ev ?_; try exact ⟨⟩)
      refine ⟨⟨by omega, by omega, by rw [List.length_map]; omega⟩, ?_⟩
      rw [hone k hkl]
      (refine ev ?_; try exact ⟨⟩)
      refine callF_of hsame ?_
      rw [show decide (L[k]'hkl = L[k]'hkl) = true from decide_eq_true rfl]
      (refine ev ?_; try exact ⟨⟩)
      exact ⟨⟨by omega, by omega⟩, ⟨k + 1, by omega, by simp⟩, by omega⟩
 ·refine callF_of Tryz.known11 ?_
  (refine ev ?_; try exact ⟨⟩)
end Go.Proofs

/-
 POLYLINE: what Split begins with. Own work.
-/
namespace Go.Proofs
open Go Go.Pi Go.RowKit Go.Shelf Go.Ar Go.Ge Go.Sp

theorem SplI.start {eP eL eLL : Nat} {w0 W : World} {aB : Nat} {va : Value} (h1 : eP ≠ eL) (h2 : eP ≠ eLL) (h3 : eL ≠ eLL) (hb : Below w0.heap.size w0 W) (ha : Box1 W aB eL va) (q : Pt) :
  SplI eP eL eLL w0 (((W.alloc (.cells #[.slice none 0 0] eLL)).alloc (.cells #[.string ⟨(rt q.1).toArray⟩, .string ⟨(rt q.2).toArray⟩] eP)).alloc (.cells #[.slice (some ⟨W.heap.size + 1, 0, none⟩) 1 1] eL))
   aB W.heap.size (W.heap.size + 1 + 1) va (.slice none 0 0) (.slice (some ⟨W.heap.size + 1, 0, none⟩) 1 1) [] [] [q] := by
 have hs := hb.size
 have hlt := ha.lt
 have s1 : (W.alloc (.cells #[.slice none 0 0] eLL)).heap.size = W.heap.size + 1 := by simp
 have s2 : ((W.alloc (.cells #[.slice none 0 0] eLL)).alloc (.cells #[.string ⟨(rt q.1).toArray⟩, .string ⟨(rt q.2).toArray⟩] eP)).heap.size = W.heap.size + 1 + 1 := by simp
 have b1 : Box1 (W.alloc (.cells #[.slice none 0 0] eLL)) W.heap.size eLL (.slice none 0 0) := heap_alloc_new W _
 have g1 : GrX (fun _ => False) W (W.alloc (.cells #[.slice none 0 0] eLL)) := .alloc _ _
 have hr : ((W.alloc (.cells #[.slice none 0 0] eLL)).alloc (.cells #[.string ⟨(rt q.1).toArray⟩, .string ⟨(rt q.2).toArray⟩] eP)).heap[W.heap.size + 1]? = some (.cells #[.string ⟨(rt q.1).toArray⟩, .string ⟨(rt q.2).toArray⟩] eP (0, 0)) := by
  have := heap_alloc_new (W.alloc (.cells #[.slice none 0 0] eLL)) (.cells #[.string ⟨(rt q.1).toArray⟩, .string ⟨(rt q.2).toArray⟩] eP)
  rwa [s1] at this
 have g2 : GrX (fun _ => False) (W.alloc (.cells #[.slice none 0 0] eLL)) ((W.alloc (.cells #[.slice none 0 0] eLL)).alloc (.cells #[.string ⟨(rt q.1).toArray⟩, .string ⟨(rt q.2).toArray⟩] eP)) := .alloc _ _
 have b1' := b1.kept g2 id
 have ha' := (ha.kept g1 id).kept g2 id
 have hbel : Below w0.heap.size w0 ((W.alloc (.cells #[.slice none 0 0] eLL)).alloc (.cells #[.string ⟨(rt q.1).toArray⟩, .string ⟨(rt q.2).toArray⟩] eP)) := (g1.trans g2 fun _ e => e.elim).below hb (fun _ e => e.elim) hs
 generalize (W.alloc (.cells #[.slice none 0 0] eLL)).alloc (.cells #[.string ⟨(rt q.1).toArray⟩, .string ⟨(rt q.2).toArray⟩] eP) = W2 at *
 have g3 : GrX (fun _ => False) W2 (W2.alloc (.cells #[.slice (some ⟨W.heap.size + 1, 0, none⟩) 1 1] eL)) := .alloc _ _
 have b3 : Box1 (W2.alloc (.cells #[.slice (some ⟨W.heap.size + 1, 0, none⟩) 1 1] eL)) (W.heap.size + 1 + 1) eL (.slice (some ⟨W.heap.size + 1, 0, none⟩) 1 1) := by
  have := heap_alloc_new W2 (.cells #[.slice (some ⟨W.heap.size + 1, 0, none⟩) 1 1] eL)
  rw [s2] at this; exact this
 have hp0 : W2.ownsRow w0.heap.size eP 2 (.slice (some ⟨W.heap.size + 1, 0, none⟩) 1 1) 1 (pce [q]) :=
  ⟨rfl, .inr ⟨W.heap.size + 1, 1, #[.string ⟨(rt q.1).toArray⟩, .string ⟨(rt q.2).toArray⟩], rfl, by omega, hr, Nat.le_refl _, by unfold maxLen; omega, rfl, rfl⟩⟩
 exact ⟨g3.below hbel (fun b e => e.elim) hbel.size, hs, by omega, by omega, by omega, by omega, ha'.kept g3 id, b1'.kept g3 id, b3, World.ownsRow_nil _ _ _ _, g3.own hp0 (fun k hk e => e), rfl, fun u hu => (by cases hu), fun k u l hu => (by simp at hu), by simp [Value.ownBlock], by simp [Value.ownBlock], by simp⟩
end Go.Proofs

/-
 POLYLINE: Split, in the plain walk. Own work.
-/
namespace Go.Proofs
open Go Go.Pi Go.RowKit Go.Shelf Go.Ar Go.Ge Go.Sp

theorem res_tup2 {P : Program} {S : Nat → Nat → Prop} {w w' : World} {d1 d2 : D} {v : Value} (h : Res P S w w' (.tup [d1, d2]) v) : ∃ v1 v2, v = .tuple #[v1, v2] ∧ Rep (fun b j => S b j ∨ (w.heap.size ≤ b ∧ b < w'.heap.size)) w' d1 v1 ∧ Rep (fun b j => S b j ∨ (w.heap.size ≤ b ∧ b < w'.heap.size)) w' d2 v2 := by
 have h' : Rep (fun b j => S b j ∨ (w.heap.size ≤ b ∧ b < w'.heap.size)) w' (.tup [d1, d2]) v := h
 generalize hd : D.tup [d1, d2] = d at h'
 cases h' with
 | tup ds vs hl h =>
   cases hd
   match vs, hl with
   | [v1, v2], _ => exact ⟨v1, v2, rfl, h 0 d1 v1 rfl rfl, h 1 d2 v2 rfl rfl⟩
 | _ => cases hd

theorem news_dr (w : World) (o : Obj) (cs : Array Value) (t : TypeId) (b : Nat) (hb : b = w.heap.size + 1) : ∀ j u, cs.toList[j]? = some u → (((w.alloc o).alloc (.cells cs t)).drew).cell? ((⟨b, 0, none⟩ : Addr).add j) = some u := by
 intro j u h
 subst hb
 have := World.news_of_block (heap_alloc_new (w.alloc o) (.cells cs t)) j u h
 rw [World.size_alloc] at this
 exact this
/-- the places of a segment among the first k crossings -/
def hereK (a : List Pt) (o : List Cr) (i k : Nat) : List Pt := (onI i (o.take k)).filter fun p => !decide (p = gt a i)
theorem hereK_succ {a : List Pt} {o : List Cr} {i k : Nat} {x : Cr} (hx : o[k]? = some x) : hereK a o i (k + 1) = if x.1 = i ∧ x.2.2 ≠ gt a i then hereK a o i k ++ [x.2.2] else hereK a o i k := by
 unfold hereK
 rw [List.take_add_one, hx]
 show (onI i (o.take k ++ [x])).filter _ = _
 rw [onI_snoc]
 by_cases h1 : x.1 = i
 ·rw [if_pos h1, List.filter_append]
  by_cases h2 : x.2.2 = gt a i
  ·rw [if_neg (fun e => e.2 h2)]; simp [h2]
  ·rw [if_pos ⟨h1, h2⟩]; simp [h2]
 ·rw [if_neg h1, if_neg (fun e => h1 e.1)]
theorem hereK_len {a : List Pt} {o : List Cr} {i k : Nat} (h : (onI i o).length ≤ 9) : (hereK a o i k).length ≤ 9 := by
 refine Nat.le_trans (List.length_filter_le ..) ?_
 have h2 : onI i o = onI i (o.take k) ++ onI i (o.drop k) := by rw [← onI_app, List.take_append_drop]
 rw [h2, List.length_append] at h
 omega
theorem hereK_all {a : List Pt} {o : List Cr} {i : Nat} : hereK a o i o.length = (onI i o).filter fun p => !decide (p = gt a i) := by unfold hereK; rw [List.take_length]
theorem _root_.Go.Pi.Rep.consR {S : Nat → Nat → Prop} {w : World} {d : D} {v : Value} {ds : List D} {vs : List Value} (h : Rep S w d v) (hs : Reps S w ds vs) : Reps S w (d :: ds) (v :: vs) := Reps.cons h hs
theorem own_shape {w : World} {base e sz n : Nat} {v : Value} {xs : List Value} (h : w.ownsRow base e sz v n xs) : ∃ ad cap, v = .slice ad n cap := by
 rcases h.2 with ⟨h1, h2⟩ | ⟨g, cap, cur, h1, _⟩
 ·exact ⟨none, 0, by rw [h1, h2]⟩
 ·exact ⟨_, _, h1⟩
theorem cutS_step {l : List Pt} {j : Nat} {p : Pt} (hp : l[j]? = some p) (st : List (List Pt) × List Pt) : (l.take (j + 1)).foldl cutS st = cutS ((l.take j).foldl cutS st) p := by
 rw [List.take_add_one, hp]
 show (l.take j ++ [p]).foldl cutS st = _
 rw [List.foldl_append]; rfl
theorem news_ad (w : World) (o : Obj) (cs : Array Value) (t : TypeId) (b : Nat) (hb : b = w.heap.size + 1) : ∀ j u, cs.toList[j]? = some u → ((w.alloc o).alloc (.cells cs t)).cell? ((⟨b, 0, none⟩ : Addr).add j) = some u := by
 intro j u h
 subst hb
 have := World.news_of_block (heap_alloc_new (w.alloc o) (.cells cs t)) j u h
 rw [World.size_alloc] at this
 exact this
theorem news_gen (w w' : World) (cs : Array Value) (t : TypeId) (b : Nat) (hb : b = w.heap.size) (hw : w'.heap = (w.alloc (.cells cs t)).heap) : ∀ j u, cs.toList[j]? = some u → w'.cell? ((⟨b, 0, none⟩ : Addr).add j) = some u := by
 intro j u h
 subst hb
 have := World.news_of_block (heap_alloc_new w (.cells cs t)) j u h
 unfold World.cell? at this ⊢
 rw [hw]; exact this
theorem own_gen {w w' : World} {o : Obj} {base e sz n : Nat} {v : Value} {xs : List Value} (h : w.ownsRow base e sz v n xs) (hw : w'.heap = (w.alloc o).heap) : w'.ownsRow base e sz v n xs := by
 have := h.alloc o
 unfold World.ownsRow at this ⊢
 rw [hw]; exact this
theorem below_gen {w w' : World} {o : Obj} (h1 : w'.os = w.os) (h2 : w'.tape = w.tape) (h3 : w'.output = w.output) (hw : w'.heap = (w.alloc o).heap) : Below w.heap.size w w' := by
 have h := (Below.refl w.heap.size w).alloc (Nat.le_refl _) o
 exact ⟨h1, h2, h3, by rw [hw]; exact h.size, fun k hk => by rw [hw]; exact h.block k hk⟩
theorem SplI.pushA {eP eL eLL : Nat} {w0 W : World} {aB oB pB : Nat} {va vo vp : Value} {vs : List Value} {out : List (List Pt)} {part : List Pt} (h : SplI eP eL eLL w0 W aB oB pB va vo vp vs out part) (h1 : eP ≠ eL) (h2 : eP ≠ eLL) {Wx W1 : World} {o : Obj} {p : Pt} {g1 c1 : Nat}
  (e1 : Wx.os = W.os) (e2 : Wx.tape = W.tape) (e3 : Wx.output = W.output) (hw : Wx.heap = (W.alloc o).heap) (hg : Wx.grownBy W1 vp.ownBlock) (hown : W1.ownsRow w0.heap.size eP 2 (.slice (some ⟨g1, 0, none⟩) (part.length + 1) c1) (part.length + 1) (pce part ++ [.string ⟨(rt p.1).toArray⟩, .string ⟨(rt p.2).toArray⟩])) (hl : vp.ownBlock = some g1 ∨ g1 = Wx.heap.size) :
  SplI eP eL eLL w0 (W1.setCell ⟨pB, 0, none⟩ (.slice (some ⟨g1, 0, none⟩) (part.length + 1) c1)) aB oB pB va vo (.slice (some ⟨g1, 0, none⟩) (part.length + 1) c1) vs out (part ++ [p]) ∧ Box1 W1 pB eL vp := by
 have hx := h.below (below_gen (o := o) e1 e2 e3 hw)
 refine ⟨(hx.push (p := p) h1 h2 hg (by rw [show pce (part ++ [p]) = pce part ++ pce [p] from cel2_app _ _ _ _]; exact hown) (hl.imp (fun e => e.symm) (fun e => ⟨g1, rfl, Nat.le_of_eq e.symm⟩))).1, ?_⟩
 exact hx.pbox.kept (GrX.ofGrown hg) (fun e => hx.pbox.ne_own hx.pown h1 e.symm)
set_option maxRecDepth 100000 in
set_option maxHeartbeats 16000000 in
theorem Tryz.splitOk : Tryz.SplitOk := by
 intro a b ha hb za zb hga hgb
 have mixed : Tryz.prog.follows .mixedOrders = true := by kernel_rfl
 have t0 := Tryz.underlying24; have a0 := Tryz.isAgg24; have z0 := Tryz.sizeOf24; have v0 := Tryz.zeroValue24; have u0 := run_underlying Tryz.underlying24
 have t1 := Tryz.underlying36; have a1 := Tryz.isAgg36; have z1 := Tryz.sizeOf36; have v1 := Tryz.zeroValue36; have u1 := run_underlying Tryz.underlying36
 have t2 := Tryz.underlying28; have a2 := Tryz.isAgg28; have z2 := Tryz.sizeOf28; have v2 := Tryz.zeroValue28; have u2 := run_underlying Tryz.underlying28
 have t3 := Tryz.underlying4; have a3 := Tryz.isAgg4; have z3 := Tryz.sizeOf4; have v3 := Tryz.zeroValue4; have u3 := run_underlying Tryz.underlying4
 have t4 := Tryz.underlying3; have a4 := Tryz.isAgg3; have z4 := Tryz.sizeOf3; have v4 := Tryz.zeroValue3; have u4 := run_underlying Tryz.underlying3
 have t5 := Tryz.underlying26; have a5 := Tryz.isAgg26; have z5 := Tryz.sizeOf26; have v5 := Tryz.zeroValue26; have u5 := run_underlying Tryz.underlying26
 have t6 := Tryz.underlying31; have a6 := Tryz.isAgg31; have z6 := Tryz.sizeOf31; have v6 := Tryz.zeroValue31; have u6 := run_underlying Tryz.underlying31
 have t7 := Tryz.underlying38; have a7 := Tryz.isAgg38; have z7 := Tryz.sizeOf38; have v7 := Tryz.zeroValue38; have u7 := run_underlying Tryz.underlying38
 have hip : (Tryz.prog.info? 36).map (fun i => (i.zero, i.size, i.bytes)) = some (some (.agg #[.string ⟨#[]⟩, .string ⟨#[]⟩]), 2, 32) := by kernel_rfl
 obtain ⟨ip, hip1, hip2, hip3, hip4⟩ := info_parts hip
 have hM := mP_mL hga hgb
 have la := good_len hga
 refine ⟨⟨by kernel_rfl, by unfold splR; split <;> rfl⟩, fun S W vs hS hL hrep => ?_⟩
 obtain ⟨va, r1, rfl, hra, t1'⟩ := hrep.uncons
 obtain ⟨vb, r2, rfl, hrb, t2'⟩ := t1'.uncons
 obtain rfl : r2 = [] := List.length_eq_zero_iff.1 t2'.1.symm
 clear t1' t2' hrep
 obtain ⟨bA, oA, cA, rfl, hcA1, hcA2, HA⟩ := chn_cells hra (by omega)
 have hb1 : Below W.heap.size W (W.alloc (.cells #[.slice (some ⟨bA, oA, none⟩) a.length cA] 24)) := (Below.refl _ _).alloc (Nat.le_refl _) _
 have hS1 : ∀ c j, S c j → c < (W.alloc (.cells #[.slice (some ⟨bA, oA, none⟩) a.length cA] 24)).heap.size := fun c j h => Nat.lt_of_lt_of_le (hS c j h) hb1.size
 have hmono : ∀ W', Below W.heap.size W W' → ∀ {d v}, Rep S W d v → Rep S W' d v := fun W' h d v hr => hr.mono (fun _ _ z => z) (fun b o z => h.cell (p := ⟨b, o, none⟩) (hS b o z))
 have cp := (Tryz.pcrossings a b ha hb za zb hga hgb).2 S _ [.slice (some ⟨bA, oA, none⟩) a.length cA, vb] hS1 (Tryz.hL W _ hL hb1) (Reps.cons (hmono _ hb1 hra) (Reps.cons (hmono _ hb1 hrb) .nil))
 unfold crR at cp
 unfold splR
 cases hov : ovC (mP a b) (a.length - 1) (b.length - 1) with
 | true =>
   rw [hov, if_pos rfl] at cp
   rw [if_pos rfl]
   clear hmono HA hra hrb hM
   show Calls _ _ #[.slice (some ⟨bA, oA, none⟩) a.length cA, vb] _ _
   go_enter Tryz.func7, Tryz.ntmps7
   go_wp2_with (go_at_call 11; refine Calls.mono cp ?_; rintro e W2 ⟨v2, rfl, hb2, hr2⟩; obtain ⟨x1, x2, rfl, hx1, hx2⟩ := res_tup2 hr2; obtain rfl : x2 = .int .i64 7 := (by cases hx2; rfl); clear hr2 hx2)
   go_ret2
   refine ⟨_, rfl, hb1.trans (hb2.mono hb1.size), ?_⟩
   refine Rep.tup [.sl 0 [], .int .i64 7] [.slice none 0 0, .int .i64 7] rfl fun i d v hd hv => ?_
   match i with
   | 0 => cases hd; cases hv; exact .sl0 none 0 (Nat.zero_le _)
   | 1 => cases hd; cases hv; exact .int _ _
   | i + 2 => simp at hd
 | false =>
   rw [hov, if_neg (by decide)] at cp
   rw [if_neg (by decide)]
   have hA : ∀ j, j < a.length → a[j]? = some (gt a j) := fun j hj => by
    rw [List.getElem?_eq_getElem hj]; simp [gt, List.getD_eq_getElem?_getD, hj]
   have hoI : ∀ i, (onI i (outC (mP a b) (b.length - 1) (a.length - 1))).length ≤ 9 := fun i => Nat.le_trans (onI_outC _).1 (by omega)
   have hos : ∀ x ∈ outC (mP a b) (b.length - 1) (a.length - 1), Sz 100 x.2.2 := fun x hx => by
    obtain ⟨k1, k2, k3⟩ := outC_mem hx
    exact sz_meetP (gt_sz za (by omega)) (gt_sz za (by omega)) (gt_sz zb (by omega)) (gt_sz zb (by omega)) k3
   have hole : (outC (mP a b) (b.length - 1) (a.length - 1)).length ≤ 81 := Nat.le_trans (outC_len _ _ _) (Nat.le_trans (Nat.mul_le_mul (show _ ≤ 9 by omega) (show _ ≤ 9 by omega)) (by decide))
   generalize outC (mP a b) (b.length - 1) (a.length - 1) = o at *
   clear hM hov hrb
   have HZ : Hid ((∀ p ∈ a, Sz 2 p) ∧ (∀ x ∈ o, Sz 100 x.2.2) ∧ (∀ i, (onI i o).length ≤ 9) ∧ (∀ j, j < a.length → a[j]? = some (gt a j)) ∧ good a = true) := ⟨za, hos, hoI, hA, hga⟩
   clear za zb hos hoI hgb hga
   obtain ⟨ca, ca'⟩ : W.cell? ⟨bA, oA, none⟩ = some (.string ⟨(rt (gt a 0).1).toArray⟩) ∧ W.cell? ⟨bA, oA + 1, none⟩ = some (.string ⟨(rt (gt a 0).2).toArray⟩) := by
    obtain ⟨_, q1, _, q2⟩ := HA 0 _ (hA 0 (by omega))
    exact ⟨by simpa using q1, by simpa using q2⟩
   have hbA : bA < W.heap.size := hS bA _ (HA 0 _ (hA 0 (by omega))).1
   have hk0 : ((0 : Int) < (a.length : Int)) := by omega
   show Calls _ _ #[.slice (some ⟨bA, oA, none⟩) a.length cA, vb] _ _
   go_enter Tryz.func7, Tryz.ntmps7
   go_wp2_with (go_at_call 11; refine Calls.mono cp ?_; rintro e W2 ⟨v2, rfl, hb2, hr2⟩; obtain ⟨x1, x2, rfl, hx1, hx2⟩ := res_tup2 hr2; obtain rfl : x2 = .int .i64 0 := (by cases hx2; rfl); clear hr2 hx2; have hb02 := hb1.trans (hb2.mono hb1.size); have box2 : Box1 W2 W.heap.size 24 (.slice (some ⟨bA, oA, none⟩) a.length cA) := Box1.kept (X := fun _ => False) (heap_alloc_new W _) (GrX.ofBelow hb2) id; have cbx := box2.cell; have hlt2 := box2.lt; have hbA2 : bA < W2.heap.size := (by omega); have hlt3 : W.heap.size < W2.heap.size + 1 := (by omega); have hlt4 : W.heap.size < W2.heap.size + 1 + 1 := (by omega); have ca2 := (hb02.cell (p := ⟨bA, oA, none⟩) hbA).trans ca; have ca2' := (hb02.cell (p := ⟨bA, oA + 1, none⟩) hbA).trans ca')
   have hI0 := SplI.start (eP := 36) (eL := 24) (eLL := 28) (w0 := W2) (W := W2) (by decide) (by decide) (by decide) (Below.refl _ _) box2 (gt a 0)
   obtain ⟨ad, cx, rfl, HO0⟩ := crl_cells hx1
   have HO : Hid (∀ j x, o[j]? = some x → ∃ b off, ad = some ⟨b, off, none⟩ ∧ b < W2.heap.size ∧ W2.cell? ⟨b, off + j * 4, none⟩ = some (.int .i64 x.1) ∧ W2.cell? ⟨b, off + j * 4 + 1, none⟩ = some (.int .i64 x.2.1) ∧ W2.cell? ⟨b, off + j * 4 + 2, none⟩ = some (.string ⟨(rt x.2.2.1).toArray⟩) ∧ W2.cell? ⟨b, off + j * 4 + 3, none⟩ = some (.string ⟨(rt x.2.2.2).toArray⟩)) := by
    intro j x hj
    obtain ⟨b, off, e1, e2, e3, e4, e5, e6⟩ := HO0 j x hj
    refine ⟨b, off, e1, ?_, e3, e4, e5, e6⟩
    rcases e2 0 (by decide) with e | e
    ·exact Nat.lt_of_lt_of_le (hS b _ e) hb02.size
    ·exact e.2
   have HC : Hid (bA < W2.heap.size ∧ ∀ j p, a[j]? = some p → W2.cell? ⟨bA, oA + j * 2, none⟩ = some (.string ⟨(rt p.1).toArray⟩) ∧ W2.cell? ⟨bA, oA + j * 2 + 1, none⟩ = some (.string ⟨(rt p.2).toArray⟩)) :=
    ⟨hbA2, fun j p hj => ⟨(hb02.cell (p := ⟨bA, oA + j * 2, none⟩) hbA).trans (HA j p hj).2.1, (hb02.cell (p := ⟨bA, oA + j * 2 + 1, none⟩) hbA).trans (HA j p hj).2.2.2⟩⟩
   have HM : Hid (Rep S W2 (chn a) (.slice (some ⟨bA, oA, none⟩) a.length cA)) := hmono _ hb02 hra
   have HB : Hid (Below W.heap.size W W2 ∧ Tryz.L W2 ∧ ∀ b j, S b j → b < W2.heap.size) := ⟨hb02, Tryz.hL W W2 hL hb02, fun b j h => Nat.lt_of_lt_of_le (hS b j h) hb02.size⟩
   clear hx1 HO0 HA hra hmono hS1 hb1 cp hb2 ca ca' ca2 ca2' cbx hA hbA hlt3 hlt4 hb02 box2
   go_loopg [34] a.length (fun gg s34 wr => ∃ (i : Nat) (vo vp : Value) (vs : List Value), s34 = .int .i64 i ∧ i + 1 ≤ a.length ∧ a.length ≤ gg + i + 1 ∧ SplI 36 24 28 W2 wr W.heap.size W2.heap.size (W2.heap.size + 1 + 1) (.slice (some ⟨bA, oA, none⟩) a.length cA) vo vp vs (partsK a o i).1 (partsK a o i).2)
   case atStart => exact ⟨0, _, _, _, rfl, by omega, by omega, hI0⟩
   case round =>
    clear hI0
    obtain ⟨i, vo, vp, vs, rfl, hi, hgg, hI⟩ := hrel
    obtain ⟨wo, hwo⟩ : ∃ wo, wo = wr := ⟨_, rfl⟩
    subst hwo
    by_cases hlt : i + 1 < a.length
    ·have hltz : (i : Int) < (a.length : Int) - 1 := by omega
     have HLT : Hid (W2.heap.size + 1 + 1 < wo.heap.size) := hI.pbox.lt
     have hI3 := hI.below (W' := wo.alloc (.cells #[.int .i64 i] 3)) ((Below.refl _ _).alloc (Nat.le_refl _) _)
     have biB : Box1 (wo.alloc (.cells #[.int .i64 i] 3)) wo.heap.size 3 (.int .i64 i) := heap_alloc_new wo _
     have HI : Hid (SplI 36 24 28 W2 (wo.alloc (.cells #[.int .i64 i] 3)) W.heap.size W2.heap.size (W2.heap.size + 1 + 1) (.slice (some ⟨bA, oA, none⟩) a.length cA) vo vp vs (partsK a o i).1 (partsK a o i).2) := hI3
     clear hI3 hI
     go_wp2
     go_loopg [12, 39] o.length (fun gg s12 s39 wr2 => ∃ k : Nat, s39 = .int .i64 k ∧ k ≤ o.length ∧ o.length ≤ gg + k ∧ wr2.ownsRow (wo.alloc (.cells #[.int .i64 i] 3)).heap.size 36 2 s12 (hereK a o i k).length (pce (hereK a o i k)) ∧ Below (wo.alloc (.cells #[.int .i64 i] 3)).heap.size (wo.alloc (.cells #[.int .i64 i] 3)) wr2)
     case atStart => exact ⟨0, rfl, by omega, by omega, World.ownsRow_nil _ _ _ _, Below.refl _ _⟩
     case round =>
      obtain ⟨k, rfl, hk, hgk, hown, hbw⟩ := hrel
      by_cases hkl : k < o.length
      ·have hkz : (k : Int) < (o.length : Int) := by omega
       -- DEV<
       have hx : o[k]? = some (o[k]'hkl) := List.getElem?_eq_getElem hkl
       generalize o[k]'hkl = x at hx
       obtain ⟨bO, oO, rfl, hbO, e3, e4, e5, e6⟩ := HO.out k x hx
       have hB2 : Below W2.heap.size W2 wr := HI.out.bel.trans (hbw.mono HI.out.bel.size)
       have d3 := (hB2.cell (p := ⟨bO, oO + k * 4, none⟩) hbO).trans e3
       have d4 := (hB2.cell (p := ⟨bO, oO + k * 4 + 1, none⟩) hbO).trans e4
       have d5 := (hB2.cell (p := ⟨bO, oO + k * 4 + 2, none⟩) hbO).trans e5
       have d6 := (hB2.cell (p := ⟨bO, oO + k * 4 + 3, none⟩) hbO).trans e6
       have boxA := HI.out.abox.kept (GrX.ofBelow (X := fun _ => False) hbw) id
       have boxI := biB.kept (GrX.ofBelow (X := fun _ => False) hbw) id
       have d7 := boxA.cell
       have d8 := boxI.cell
       obtain ⟨q1, q2⟩ := HC.out.2 i _ (HZ.out.2.2.2.1 i (by omega))
       have d9 := (hB2.cell (p := ⟨bA, oA + i * 2, none⟩) HC.out.1).trans q1
       have d10 := (hB2.cell (p := ⟨bA, oA + i * 2 + 1, none⟩) HC.out.1).trans q2
       have l1 : bO < wr.heap.size := Nat.lt_of_lt_of_le hbO hB2.size
       have l2 : bA < wr.heap.size := Nat.lt_of_lt_of_le HC.out.1 hB2.size
       have l3 := boxA.lt
       have l4 := boxI.lt
       have hiz : (i : Int) < (a.length : Int) := by omega
       have hneq := Tryz.neqPt x.2.2 (gt a i)
       have hfl : (hereK a o i k).length ≤ 9 := hereK_len (HZ.out.2.2.1 i)
       have hszb := hbw.size
       have hszb' := hszb
       simp only [World.size_alloc] at hszb
       have hge := Tryz.eqgPt
       have HX : Hid (o[k]? = some x ∧ wr.ownsRow (wo.alloc (.cells #[.int .i64 i] 3)).heap.size 36 2 u12 (hereK a o i k).length (pce (hereK a o i k)) ∧ Below (wo.alloc (.cells #[.int .i64 i] 3)).heap.size (wo.alloc (.cells #[.int .i64 i] 3)) wr) := ⟨hx, hown, hbw⟩
       clear hx hown hbw q1 q2 e3 e4 e5 e6 boxA boxI hB2
       by_cases hxi : x.1 = i
       ·have hxz : ((x.1 : Int) == (i : Int)) = true := by simp [hxi]
        have hxz2 : (x.1 : Int) = (i : Int) := by omega
        by_cases hxa : x.2.2 = gt a i
        ·have ed : decide (x.2.2 = gt a i) = true := decide_eq_true hxa
         rw [ed] at hneq
         have HE : Hid (x.1 = i ∧ x.2.2 = gt a i) := ⟨hxi, hxa⟩
         clear hxi hxa ed
         go_wp2_with fail
         go_big_region_o
         all_goals go_wp2
         all_goals go_roundg (o.length - (k + 1))
         case measure => omega
         case rel =>
          have e5 : hereK a o i (k + 1) = hereK a o i k := by rw [hereK_succ HX.out.1, if_neg (fun e => e.2 HE.out.2)]
          refine ⟨k + 1, by go_num, by omega, by omega, ?_, (HX.out.2.2.alloc hszb' _).drew⟩
          rw [e5]
          exact (HX.out.2.1.alloc _).drew
        ·have ed : decide (x.2.2 = gt a i) = false := decide_eq_false hxa
         rw [ed] at hneq
         have HE : Hid (x.1 = i ∧ x.2.2 ≠ gt a i) := ⟨hxi, hxa⟩
         clear hxi hxa ed
         go_wp2_with fail
         go_big_region_o
         all_goals go_wp2_with (at_builtin; refine wpList_append_lies _ rfl _ _ 24 rfl (wo.alloc (.cells #[.int .i64 i] 3)).heap.size 36 ip (.agg #[.string ⟨#[]⟩, .string ⟨#[]⟩]) 2 32 Tryz.underlying24 hip1 hip2 hip3 hip4 rfl (by decide) _ _ _ rfl (((HX.out.2.1.alloc _).alloc _).drew) ⟨_, 0, none⟩ 1 1 [.string ⟨(rt x.2.2.1).toArray⟩, .string ⟨(rt x.2.2.2).toArray⟩] rfl rfl (news_dr wr _ _ _ _ rfl) (by simp [Value.oneCell']) (by decide) (by unfold maxLen; omega) (by omega) (by simp; omega) _ rfl ?_; intro g1 c1 w1 ho1 hg1' hl1 hlt3)
         all_goals go_roundg (o.length - (k + 1))
         case measure => omega
         case rel =>
          have e5 : hereK a o i (k + 1) = hereK a o i k ++ [x.2.2] := by rw [hereK_succ HX.out.1, if_pos HE.out]
          have b5 := (((HX.out.2.2.alloc hszb' _).alloc (Nat.le_trans hszb' (by simp)) _).drew).grown hg1' (by simp; omega) (fun q hq => (HX.out.2.1.lt q hq).1)
          refine ⟨k + 1, by go_num, by omega, by omega, ?_, b5⟩
          rw [e5, List.length_append, show pce (hereK a o i k ++ [x.2.2]) = pce (hereK a o i k) ++ pce [x.2.2] from cel2_app _ _ _ _]
          exact ho1
       ·have hxz : ((x.1 : Int) == (i : Int)) = false := by simp; omega
        have hxz2 : ¬(x.1 : Int) = (i : Int) := by omega
        go_wp2_with fail
        go_big_region_o
        all_goals go_wp2
        all_goals go_roundg (o.length - (k + 1))
        case measure => omega
        case rel =>
         have e5 : hereK a o i (k + 1) = hereK a o i k := by rw [hereK_succ HX.out.1, if_neg (fun e => hxi e.1)]
         refine ⟨k + 1, by go_num, by omega, by omega, ?_, (HX.out.2.2.alloc hszb' _).drew⟩
         rw [e5]
         exact (HX.out.2.1.alloc _).drew
       -- DEV>
      ·obtain rfl : k = o.length := by omega
       have hab := good_ne HZ.out.2.2.2.2 (j := i) (by omega)
       have hL3 : Tryz.L (wo.alloc (.cells #[.int .i64 i] 3)) := Tryz.hL W2 _ HB.out.2.1 HI.out.bel
       have hcmp : ∀ x ∈ hereK a o i o.length, ∀ y ∈ hereK a o i o.length, ∀ W', wr.grownBy W' u12.ownBlock → Calls Tryz.prog 19 #[.agg (enc2 (fun p : Pt => rt p.1) (fun p : Pt => rt p.2) x).toArray, .agg (enc2 (fun p : Pt => rt p.1) (fun p : Pt => rt p.2) y).toArray, .pointer (some ⟨W.heap.size, 0, none⟩), .pointer (some ⟨wo.heap.size, 0, none⟩)] W' fun e W'' => e = .returned (.int .i64 (cmS (gt a i) (gt a (i + 1)) x y)) ∧ Below W'.heap.size W' W'' := by
        -- DEV<
        intro x hx y hy W' hg
        have zof : ∀ z ∈ hereK a o i o.length, Sz 100 z := by
         intro z hz
         unfold hereK onI at hz
         obtain ⟨c, hc, rfl⟩ := List.mem_map.1 (List.mem_filter.1 hz).1
         exact HZ.out.2.1 c (List.mem_of_mem_take (List.mem_filter.1 hc).1)
        have hB2 : Below W2.heap.size W2 wr := HI.out.bel.trans (hbw.mono HI.out.bel.size)
        have hlo := hown.lt
        have hszo := HI.out.bel.size
        have hB3 : Below W2.heap.size W2 W' := hB2.grown hg hB2.size (fun q hq => Nat.le_trans hszo (hlo q hq).1)
        have nX : ∀ b, b < (wo.alloc (.cells #[.int .i64 i] 3)).heap.size → ¬some b = u12.ownBlock := fun b hb e => by have := (hlo b e.symm).1; omega
        have boxA := (HI.out.abox.kept (GrX.ofBelow (X := fun _ => False) hbw) id).kept (GrX.ofGrown hg) (nX _ HI.out.abox.lt)
        have boxI := (biB.kept (GrX.ofBelow (X := fun _ => False) hbw) id).kept (GrX.ofGrown hg) (nX _ biB.lt)
        have rp : ∀ z : Pt, Sz 100 z → Rep (fun b j => S b j ∨ b = W.heap.size ∨ b = wo.heap.size) W' (ptD z) (.agg (enc2 (fun p : Pt => rt p.1) (fun p : Pt => rt p.2) z).toArray) := by
         intro z hz
         have q1 := rt_len z.1
         have q2 := rt_len z.2
         have q3 := hz.1
         have q4 := hz.2
         refine Rep.agg [.str (rt z.1), .str (rt z.2)] [.string ⟨(rt z.1).toArray⟩, .string ⟨(rt z.2).toArray⟩] rfl (by simp [D.one]) fun n d v hd hv => ?_
         match n with
         | 0 => cases hd; cases hv; exact .str _ (by unfold maxLen; omega)
         | 1 => cases hd; cases hv; exact .str _ (by unfold maxLen; omega)
         | n + 2 => simp at hd
        have rowOf : ∀ (b e : Nat) (v : Value), Box1 W' b e v → (b = W.heap.size ∨ b = wo.heap.size) → Row (fun b j => S b j ∨ b = W.heap.size ∨ b = wo.heap.size) W' b 0 [v] := by
         intro b e v hb hbb n u hu
         match n with
         | 0 => cases hu; exact ⟨.inr hbb, hb.cell⟩
         | n + 1 => simp at hu
        have ra : Rep (fun b j => S b j ∨ b = W.heap.size ∨ b = wo.heap.size) W' (chn a) (.slice (some ⟨bA, oA, none⟩) a.length cA) := HM.out.mono (fun _ _ h => .inl h) (fun b j h => hB3.cell (p := ⟨b, j, none⟩) (HB.out.2.2 b j h))
        have r3 : Rep (fun b j => S b j ∨ b = W.heap.size ∨ b = wo.heap.size) W' (.pt [chn a]) (.pointer (some ⟨W.heap.size, 0, none⟩)) :=
         .pt [chn a] _ 0 [_] rfl (by simp [D.one]) (rowOf _ _ _ boxA (.inl rfl)) fun n d v hd hv => (match n, hd, hv with | 0, hd, hv => (by cases hd; cases hv; exact ra) | n + 1, hd, _ => (by simp at hd))
        have r4 : Rep (fun b j => S b j ∨ b = W.heap.size ∨ b = wo.heap.size) W' (.pt [.int .i64 i]) (.pointer (some ⟨wo.heap.size, 0, none⟩)) :=
         .pt [.int .i64 i] _ 0 [_] rfl (by simp [D.one]) (rowOf _ _ _ boxI (.inr rfl)) fun n d v hd hv => (match n, hd, hv with | 0, hd, hv => (by cases hd; cases hv; exact .int _ _) | n + 1, hd, _ => (by simp at hd))
        refine ((Tryz.qcmp a i x y ha hlt (fun p hp => (HZ.out.1 p hp).more (by decide)) ((zof x hx).more (by decide)) ((zof y hy).more (by decide))).2 (fun b j => S b j ∨ b = W.heap.size ∨ b = wo.heap.size) W' [_, _, _, _] ?_ (Tryz.hL W2 W' HB.out.2.1 hB3) ((rp x (zof x hx)).consR ((rp y (zof y hy)).consR (r3.consR (r4.consR .nil))))).mono ?_
        ·rintro b j (h | rfl | rfl)
         ·exact Nat.lt_of_lt_of_le (HB.out.2.2 b j h) hB3.size
         ·exact boxA.lt
         ·exact boxI.lt
        ·rintro e W'' ⟨v, rfl, hb'', hr⟩
         obtain rfl : v = .int .i64 (cmS (gt a i) (gt a (i + 1)) x y) := by cases hr; rfl
         exact ⟨rfl, hb''⟩
        -- DEV>
       have hl9 : (hereK a o i o.length).length ≤ 9 := hereK_len (HZ.out.2.2.1 i)
       have hsort := Tryz.qsort (rD_tot (gt a i) (gt a (i + 1))) (cmS (gt a i) (gt a (i + 1))) (cmS_ro hab) (.pointer (some ⟨W.heap.size, 0, none⟩)) (.pointer (some ⟨wo.heap.size, 0, none⟩)) _ wr u12 (hereK a o i o.length) hL3 hbw hown (by omega) hcmp
       have HAB : Hid (gt a i ≠ gt a (i + 1)) := hab
       clear hcmp hown hbw hab
       go_wp2_with (first
        | (go_at_call 18; refine Calls.mono hsort ?_; rintro e W5 ⟨rfl, r, hp5, hs5, ho5, hg5, hb5⟩; rw [← hp5.length_eq] at ho5; have hc5 := Tryz.qcompact _ W5 u12 r hb5 ho5 (by rw [hp5.length_eq]; omega))
        | (go_at_call 21; refine Calls.mono hc5 ?_; rintro e W6 ⟨v6, rfl, ho6, hg6, hb6⟩; obtain ⟨ad6, c6, rfl⟩ := own_shape ho6))
       have HP : Hid (segS (gt a (i + 1)) (cpt r) (partsK a o i) = partsK a o (i + 1)) := parts_seg (by rw [← hereK_all]; exact hp5) hs5
       have hcl : (cpt r).length ≤ 9 := Nat.le_trans (cpt_len r) (by rw [hp5.length_eq]; exact hl9)
       have hI6 := HI.out.below hb6
       have bi6 := biB.kept (GrX.ofBelow (X := fun _ => False) hb6) id
       have hn6 : Value.ownBlock (.slice ad6 (cpt r).length c6) ≠ vp.ownBlock := by
        obtain ⟨gp, cp, hvp, _, hgp⟩ := HI.out.pform
        intro e
        have := (ho6.lt gp (by rw [e, hvp]; rfl)).1
        omega
       have hsz6 := hb6.size
       have hpl := parts_len (a := a) HZ.out.2.2.1 i
       have him : i * 9 ≤ 90 := by omega
       generalize hq : cpt r = q at *
       clear hc5 hsort hp5 hs5 ho5 hg5 hb5 hg6
       go_loopg [68] q.length (fun gg s68 wr3 => ∃ (j : Nat) (vo vp : Value) (vs : List Value) (st : List (List Pt) × List Pt), s68 = .int .i64 j ∧ j ≤ q.length ∧ q.length ≤ gg + j ∧ Hid ((q.take j).foldl cutS (partsK a o i) = st) ∧ st.1.length ≤ 90 + j ∧ st.2.length ≤ 11 ∧ SplI 36 24 28 W2 wr3 W.heap.size W2.heap.size (W2.heap.size + 1 + 1) (.slice (some ⟨bA, oA, none⟩) a.length cA) vo vp vs st.1 st.2 ∧ wr3.ownsRow (wo.alloc (.cells #[.int .i64 i] 3)).heap.size 36 2 (.slice ad6 q.length c6) q.length (pce q) ∧ Value.ownBlock (.slice ad6 q.length c6) ≠ vp.ownBlock ∧ Box1 wr3 wo.heap.size 3 (.int .i64 i) ∧ wo.heap.size + 1 ≤ wr3.heap.size)
       case atStart => exact ⟨0, vo, vp, vs, partsK a o i, rfl, by omega, by omega, (show _ = _ from rfl), by omega, by omega, hI6, ho6, hn6, bi6, by simpa using hsz6⟩
       case round =>
        clear hI6 ho6 hn6 bi6
        obtain ⟨j, vo', vp', vs', st, rfl, hj, hgj, HS, hst1, hst2, hI7, ho7, hn7, bi7, hsz7⟩ := hrel
        by_cases hjl : j < q.length
        ·have hjz : (j : Int) < (q.length : Int) := by omega
         -- DEV<
         have hp : q[j]? = some (q[j]'hjl) := List.getElem?_eq_getElem hjl
         generalize q[j]'hjl = p at hp
         obtain ⟨g7, c7, h7, hg71, hg72⟩ := ho7.form (by omega)
         obtain ⟨rfl, rfl⟩ : ad6 = some ⟨g7, 0, none⟩ ∧ c6 = c7 := by cases h7; exact ⟨rfl, rfl⟩
         clear h7
         obtain ⟨cp, cp'⟩ := cel2_at (fun p : Pt => rt p.1) (fun p : Pt => rt p.2) hp
         rw [← ho7.cellAt _ (by omega)] at cp cp'
         have d1 := hI7.pbox.cell
         have d2 := hI7.pbox.frozen
         have l1 := hI7.pbox.lt
         have hp7 := hI7.ppos
         have hs7 := hI7.bel.size
         have HI7 : Hid (SplI 36 24 28 W2 wr W.heap.size W2.heap.size (W2.heap.size + 1 + 1) (.slice (some ⟨bA, oA, none⟩) a.length cA) vo' vp' vs' st.1 st.2 ∧ wr.ownsRow (wo.alloc (.cells #[.int .i64 i] 3)).heap.size 36 2 (.slice (some ⟨g7, 0, none⟩) q.length c6) q.length (pce q) ∧ Value.ownBlock (.slice (some ⟨g7, 0, none⟩) q.length c6) ≠ vp'.ownBlock ∧ Box1 wr wo.heap.size 3 (.int .i64 i) ∧ q[j]? = some p) := ⟨hI7, ho7, hn7, bi7, hp⟩
         have HI8 : Hid (SplI 36 24 28 W2 ((wr.alloc (.cells #[.string ⟨(rt p.1).toArray⟩, .string ⟨(rt p.2).toArray⟩] 36)).alloc (.cells #[.string ⟨(rt p.1).toArray⟩, .string ⟨(rt p.2).toArray⟩] 36)) W.heap.size W2.heap.size (W2.heap.size + 1 + 1) (.slice (some ⟨bA, oA, none⟩) a.length cA) vo' vp' vs' st.1 st.2) :=
          (hI7.below ((Below.refl _ _).alloc (Nat.le_refl _) _)).below ((Below.refl _ _).alloc (Nat.le_refl _) _)
         clear hI7 ho7 hn7 bi7 hp
         go_wp2_with (first
          | (at_builtin; refine wpList_append_lies _ rfl _ _ 24 rfl W2.heap.size 36 ip (.agg #[.string ⟨#[]⟩, .string ⟨#[]⟩]) 2 32 Tryz.underlying24 hip1 hip2 hip3 hip4 rfl (by decide) vp' st.2.length (pce st.2) rfl HI8.out.pown ⟨_, 0, none⟩ 1 1 [.string ⟨(rt p.1).toArray⟩, .string ⟨(rt p.2).toArray⟩] rfl rfl (news_ad wr _ _ _ _ rfl) (by simp [Value.oneCell']) (by decide) (by unfold maxLen; omega) (by omega) (by simp; omega) _ rfl ?_; intro g1 c1 w1 ho1 hg1' hl1 hlt3; obtain ⟨i1, i2⟩ := HI8.out.push (p := p) (vp' := .slice (some ⟨g1, 0, none⟩) (st.2.length + 1) c1) (by decide) (by decide) hg1' (by rw [show pce (st.2 ++ [p]) = pce st.2 ++ pce [p] from cel2_app _ _ _ _]; exact ho1) (hl1.imp (fun e => e.symm) (fun e => ⟨g1, rfl, Nat.le_of_eq e.symm⟩)); have b1 := HI8.out.pbox.kept (GrX.ofGrown hg1') (fun e => HI8.out.pbox.ne_own HI8.out.pown (by decide) e.symm); have k1 := b1.cell; have k2 := b1.frozen; have cc := Tryz.qcut1 _ _ i1 (by simp; omega) (by simp; omega) (by omega))
          | (go_at_call 17; refine Calls.mono cc ?_; rintro e W8 ⟨rfl, vo8, vp8, vs8, qq, hqq, i8, g8, n8⟩))
         go_roundg (q.length - (j + 1))
         case measure => omega
         case rel =>
          obtain ⟨hI7, ho7, hn7, bi7, hp⟩ := HI7.out
          obtain rfl : p = qq := by simpa using hqq
          have gAll : GrX (fun b => some b = vp'.ownBlock ∨ b = W2.heap.size ∨ b = W2.heap.size + 1 + 1 ∨ some b = vo'.ownBlock) wr W8 :=
           (((GrX.alloc (X := fun b => some b = vp'.ownBlock ∨ b = W2.heap.size ∨ b = W2.heap.size + 1 + 1 ∨ some b = vo'.ownBlock) wr _).trans (GrX.alloc (X := fun _ => False) _ _) (fun _ e => e.elim)).trans i2 (fun b e => .inl (e.elim .inl (fun e => .inr (.inr (.inl e)))))).trans g8 (fun b e => .inl (.inr e))
          have hsz := gAll.size
          have hs2 := i2.size
          have hlt7 := ho7.lt g7 rfl
          refine ⟨j + 1, vo8, vp8, vs8, cutS st p, by go_num, by omega, by omega, (show _ = _ from by rw [cutS_step hp, HS.out]), by simp [cutS]; omega, by simp [cutS], i8, gAll.own ho7 ?_, ?_, bi7.kept gAll ?_, by omega⟩
          ·intro k hk e
           cases hk
           rcases e with e | e | e | e
           ·exact hn7 e
           ·exact hI7.obox.ne_own ho7 (by decide) (congrArg some e)
           ·exact hI7.pbox.ne_own ho7 (by decide) (congrArg some e)
           ·exact own_ne' hI7.oown ho7 (by decide) e.symm
          ·intro e
           have := n8 g7 e.symm
           simp at hs2 this
           omega
          ·have := HLT.out
           rintro (e | e | e | e)
           ·exact bi7.ne_own hI7.pown (by decide) e.symm
           ·omega
           ·omega
           ·exact bi7.ne_own hI7.oown (by decide) e.symm
         -- DEV>
        ·obtain rfl : j = q.length := by omega
         have hst : q.foldl cutS (partsK a o i) = st := by have := HS.out; rwa [List.take_length] at this
         have hpos := hI7.ppos
         obtain ⟨g8, c8, rfl, hg81, hg82⟩ := hI7.pform
         have hp : st.2[st.2.length - 1]? = some (st.2[st.2.length - 1]'(by omega)) := List.getElem?_eq_getElem (by omega)
         generalize st.2[st.2.length - 1]'(by omega) = p at hp
         obtain ⟨cp, cp'⟩ := cel2_at (fun p : Pt => rt p.1) (fun p : Pt => rt p.2) hp
         rw [← hI7.pown.cellAt _ (by omega)] at cp cp'
         have d1 := hI7.pbox.cell
         have d2 := hI7.pbox.frozen
         have d3 := hI7.abox.cell
         have d4 := bi7.cell
         obtain ⟨q1, q2⟩ := HC.out.2 (i + 1) _ (HZ.out.2.2.2.1 (i + 1) hlt)
         have d9 := (hI7.bel.cell (p := ⟨bA, oA + (i + 1) * 2, none⟩) HC.out.1).trans q1
         have d10 := (hI7.bel.cell (p := ⟨bA, oA + (i + 1) * 2 + 1, none⟩) HC.out.1).trans q2
         have l1 := hI7.pbox.lt
         have l2 : bA < wr.heap.size := Nat.lt_of_lt_of_le HC.out.1 hI7.bel.size
         have l3 := hI7.abox.lt
         have l4 := bi7.lt
         have hs7 := hI7.bel.size
         have e0 : ((i : Int) + 1).toNat = i + 1 := by omega
         have p0 : (0 : Int) ≤ (i : Int) + 1 := by omega
         have jz : (i : Int) + 1 < (a.length : Int) := by omega
         have pz : (0 : Int) ≤ (st.2.length : Int) - 1 := by omega
         have pz1 : (1 : Int) ≤ (st.2.length : Int) := by omega
         have pz2 : 1 ≤ st.2.length := by omega
         have jz2 : (st.2.length : Int) - 1 < (st.2.length : Int) := by omega
         have ez : ((st.2.length : Int) - 1).toNat = st.2.length - 1 := by omega
         have wz : IntKind.i64.wrap ((st.2.length : Int) - 1) = (st.2.length : Int) - 1 := by rw [IntKind.wrap_i64]; omega
         have wi : IntKind.i64.wrap ((i : Int) + 1) = (i : Int) + 1 := by rw [IntKind.wrap_i64]; omega
         have hneq := Tryz.neqPt p (gt a (i + 1))
         have hge := Tryz.eqgPt
         have HI7 : Hid (SplI 36 24 28 W2 wr W.heap.size W2.heap.size (W2.heap.size + 1 + 1) (.slice (some ⟨bA, oA, none⟩) a.length cA) vo' (.slice (some ⟨g8, 0, none⟩) st.2.length c8) vs' st.1 st.2 ∧ st.2[st.2.length - 1]? = some p ∧ q.foldl cutS (partsK a o i) = st) := ⟨hI7, hp, hst⟩
         clear hI7 ho7 hn7 bi7 hp hst q1 q2
         by_cases hpb : p = gt a (i + 1)
         ·have ed : decide (p = gt a (i + 1)) = true := decide_eq_true hpb
          rw [ed] at hneq
          have HE : Hid (p = gt a (i + 1)) := hpb
          clear hpb ed
          go_wp2_with fail
          go_region_held3 (fun w' => w'.cell? ⟨W2.heap.size + 1 + 1, 0, none⟩ = some (.slice (some ⟨g8, 0, none⟩) st.2.length c8) ∧ w'.cell? ⟨g8, (st.2.length - 1) * 2, none⟩ = some (.string ⟨(rt p.1).toArray⟩) ∧ w'.cell? ⟨g8, (st.2.length - 1) * 2 + 1, none⟩ = some (.string ⟨(rt p.2).toArray⟩) ∧ w'.cell? ⟨W.heap.size, 0, none⟩ = some (.slice (some ⟨bA, oA, none⟩) a.length cA) ∧ w'.cell? ⟨wo.heap.size, 0, none⟩ = some (.int .i64 i) ∧ w'.cell? ⟨bA, oA + (i + 1) * 2, none⟩ = some (.string ⟨(rt (gt a (i + 1)).1).toArray⟩) ∧ w'.cell? ⟨bA, oA + (i + 1) * 2 + 1, none⟩ = some (.string ⟨(rt (gt a (i + 1)).2).toArray⟩)) (go_keep) (fail)
          all_goals go_wp2_with fail
          all_goals go_roundg (a.length - (i + 2))
          case measure => omega
          case rel =>
           obtain ⟨hI7, hp, hst⟩ := HI7.out
           have e5 : partsK a o (i + 1) = st := by
            rw [← HP.out]
            unfold segS
            simp only [hst]
            rw [if_pos (by rw [List.getLast?_eq_getElem?, hp, HE.out])]
           refine ⟨i + 1, vo', .slice (some ⟨g8, 0, none⟩) st.2.length c8, vs', by go_num, by omega, by omega, ?_⟩
           rw [e5]
           exact hI7.drew
         ·have ed : decide (p = gt a (i + 1)) = false := decide_eq_false hpb
          rw [ed] at hneq
          have HN : Hid (partsK a o (i + 1) = (st.1, st.2 ++ [gt a (i + 1)])) := by
           obtain ⟨_, hp, hst⟩ := HI7.out
           show _ = _
           rw [← HP.out]
           unfold segS
           simp only [hst]
           rw [if_neg (by rw [List.getLast?_eq_getElem?, hp]; exact fun e => hpb (Option.some.inj e))]
          clear hpb ed
          go_wp2_with fail
          go_region_held3 (fun w' => w'.cell? ⟨W2.heap.size + 1 + 1, 0, none⟩ = some (.slice (some ⟨g8, 0, none⟩) st.2.length c8) ∧ w'.cell? ⟨g8, (st.2.length - 1) * 2, none⟩ = some (.string ⟨(rt p.1).toArray⟩) ∧ w'.cell? ⟨g8, (st.2.length - 1) * 2 + 1, none⟩ = some (.string ⟨(rt p.2).toArray⟩) ∧ w'.cell? ⟨W.heap.size, 0, none⟩ = some (.slice (some ⟨bA, oA, none⟩) a.length cA) ∧ w'.cell? ⟨wo.heap.size, 0, none⟩ = some (.int .i64 i) ∧ w'.cell? ⟨bA, oA + (i + 1) * 2, none⟩ = some (.string ⟨(rt (gt a (i + 1)).1).toArray⟩) ∧ w'.cell? ⟨bA, oA + (i + 1) * 2 + 1, none⟩ = some (.string ⟨(rt (gt a (i + 1)).2).toArray⟩)) (go_keep) (fail)
          all_goals go_wp2_with fail
          go_region_law (refine step_append_lies _ rfl (.tmp 91) (.tmp 97) 24 rfl W2.heap.size 36 ip (.agg #[.string ⟨#[]⟩, .string ⟨#[]⟩]) 2 32 Tryz.underlying24 hip1 hip2 hip3 hip4 rfl (by decide) (.slice (some ⟨g8, 0, none⟩) st.2.length c8) st.2.length (pce st.2) (by simp [Act.eval, Act.put]) (own_gen (o := .cells #[.string ⟨(rt (gt a (i + 1)).1).toArray⟩, .string ⟨(rt (gt a (i + 1)).2).toArray⟩] 36) HI7.out.1.pown rfl) ⟨wr.heap.size, 0, none⟩ 1 1 [.string ⟨(rt (gt a (i + 1)).1).toArray⟩, .string ⟨(rt (gt a (i + 1)).2).toArray⟩] (by simp [Act.eval, Act.put]) rfl (news_gen wr _ #[.string ⟨(rt (gt a (i + 1)).1).toArray⟩, .string ⟨(rt (gt a (i + 1)).2).toArray⟩] 36 _ rfl rfl) (by simp [Value.oneCell']) (by decide) (by unfold maxLen; omega) (by omega) (by simp; omega) _ rfl ?_; intro g1 c1 w1 ho1 hg1' hl1 hlt3; obtain ⟨i1, b1⟩ := SplI.pushA (o := .cells #[.string ⟨(rt (gt a (i + 1)).1).toArray⟩, .string ⟨(rt (gt a (i + 1)).2).toArray⟩] 36) (p := gt a (i + 1)) HI7.out.1 (by decide) (by decide) (by rfl) (by rfl) (by rfl) (by rfl) hg1' ho1 hl1; have k1 := b1.cell; have k2 := b1.frozen)
          all_goals
           go_wp2_with fail
           go_roundg (a.length - (i + 2))
           case measure => omega
           case rel =>
            refine ⟨i + 1, vo', .slice (some ⟨g1, 0, none⟩) (st.2.length + 1) c1, vs', by go_num, by omega, by omega, ?_⟩
            rw [HN.out]
            exact i1
    ·have hltz : ¬(i : Int) < (a.length : Int) - 1 := by omega
     have hia : a.length - 1 = i := by omega
     have hpl := parts_len (a := a) HZ.out.2.2.1 i
     have him : i * 9 ≤ 90 := by omega
     have hall := parts_all (P := Sz 100) (a := a) (xs := o) (fun j hj => (HZ.out.1 _ (List.mem_of_getElem? (HZ.out.2.2.2.1 j hj))).more (by decide)) HZ.out.2.1 i (by omega)
     have hlen : ∀ p : Pt, Sz 100 p → (rt p.1).length ≤ maxLen ∧ (rt p.2).length ≤ maxLen := by
      intro p hp
      have q1 := rt_len p.1
      have q2 := rt_len p.2
      have q3 := hp.1
      have q4 := hp.2
      unfold maxLen
      omega
     have HPA : Hid (partsA a o = if 1 < (partsK a o i).2.length then (partsK a o i).1 ++ [(partsK a o i).2] else (partsK a o i).1) := by
      show _ = _
      unfold partsA
      rw [hia]
     clear hia
     by_cases hp1 : 1 < (partsK a o i).2.length
     ·have cc := Tryz.qcut1 W2 wo hI hp1 (by omega) (by omega)
      clear hI
      go_wp2_with (go_at_call 17; refine Calls.mono cc ?_; rintro e W8 ⟨rfl, vo8, vp8, vs8, qq, hqq, i8, g8, n8⟩; have k1 := i8.obox.cell)
      go_ret2
      refine ⟨_, rfl, HB.out.1.trans (i8.bel.mono HB.out.1.size), ?_⟩
      refine Rep.tup [.sl (partsA a o).length ((partsA a o).map fun l => chn l), .int .i64 0] [vo8, .int .i64 0] rfl fun n d v hd hv => ?_
      match n with
      | 0 =>
        cases hd; cases hv
        rw [HPA.out, if_pos hp1]
        refine rep_parts i8.oown i8.len (fun k u l h1 h2 => (i8.each k u l h1 h2).1) (fun l hl p hp => hlen p ?_) fun c j h1 h2 => .inr ⟨Nat.le_trans HB.out.1.size h1, h2⟩
        rcases List.mem_append.1 hl with hl | hl
        ·exact hall.1 l hl p hp
        ·cases List.mem_singleton.1 hl; exact hall.2 p hp
      | 1 => cases hd; cases hv; exact .int _ _
      | n + 2 => simp at hd
     ·have cc := Tryz.qcut0 W2 wo hI hp1
      have HI : Hid (SplI 36 24 28 W2 wo W.heap.size W2.heap.size (W2.heap.size + 1 + 1) (.slice (some ⟨bA, oA, none⟩) a.length cA) vo vp vs (partsK a o i).1 (partsK a o i).2) := hI
      have k1 := hI.obox.cell
      clear hI
      go_wp2_with (go_at_call 17; refine Calls.mono cc ?_; rintro e W8 ⟨rfl, rfl⟩)
      go_ret2
      have i8 := HI.out
      refine ⟨_, rfl, HB.out.1.trans (i8.bel.mono HB.out.1.size), ?_⟩
      refine Rep.tup [.sl (partsA a o).length ((partsA a o).map fun l => chn l), .int .i64 0] [vo, .int .i64 0] rfl fun n d v hd hv => ?_
      match n with
      | 0 =>
        cases hd; cases hv
        rw [HPA.out, if_neg hp1]
        exact rep_parts i8.oown i8.len (fun k u l h1 h2 => (i8.each k u l h1 h2).1) (fun l hl p hp => hlen p (hall.1 l hl p hp)) fun c j h1 h2 => .inr ⟨Nat.le_trans HB.out.1.size h1, h2⟩
      | 1 => cases hd; cases hv; exact .int _ _
      | n + 2 => simp at hd
end Go.Proofs
