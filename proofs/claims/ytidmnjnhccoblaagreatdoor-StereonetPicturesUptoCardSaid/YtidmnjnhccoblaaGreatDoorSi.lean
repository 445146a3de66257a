/-
  STEREONET: the chapter's examples: known() is true. Own work.
-/
import Derived.Test.YtidmnjnhccoblaaGreatDoorPj
import Derived.Test.YtidmnjnhccoblaaGreatDoorSh
import Derived.Test.YtidmnjnhccoblaaGreatDoorEh
import Derived.Test.YtidmnjnhccoblaaGreatDoorSg
set_option linter.unusedVariables false
set_option linter.unusedSimpArgs false
namespace Go.Proofs
open Go Go.Pi Go.RowKit Go.Ar Go.Ne

theorem val_of (q : Rat) (h : rd q ≤ 200) : val (rt q) = q := by
  have := val_rt (s := rt q) ⟨q, rfl, h⟩
  exact (rt_inj this).symm
theorem px_one : pixV false 100 (1, 0, -1) = (41, 0) := by decide +kernel
theorem px_two : pixV true 100 (1, 0, 1) = (-54, 0) := by decide +kernel
theorem px_down : pixV false 1 (0, 0, -1) = (0, 0) := by decide +kernel
theorem rt_p0 : rt 0 = [48] := zero_txt
theorem rt_p1 : rt 1 = [49] := by kernel_rfl
theorem rd_01 : rd (0 : Rat) ≤ 200 ∧ rd (1 : Rat) ≤ 200 ∧ rd (-1 : Rat) ≤ 200 := ⟨by rw [show (0 : Rat) = ((0 : Int) : Rat) from rfl]; exact Nat.le_trans (rd_int (k := 1) (by decide) (by decide)) (by decide), by rw [show (1 : Rat) = ((1 : Int) : Rat) from rfl]; exact Nat.le_trans (rd_int (k := 1) (by decide) (by decide)) (by decide), Nat.le_trans rd_m1 (by decide)⟩
theorem vl_0 : val [48] = 0 := by rw [← rt_p0]; exact val_of 0 rd_01.1
theorem vl_1 : val [49] = 1 := by rw [← rt_p1]; exact val_of 1 rd_01.2.1
theorem vl_m1 : val [45, 49] = -1 := by rw [← rt_m1]; exact val_of (-1) rd_01.2.2
theorem ok_0 : okR [48] := ⟨0, rt_p0.symm, rd_01.1⟩
theorem ok_1 : okR [49] := ⟨1, rt_p1.symm, rd_01.2.1⟩
theorem ok_m1 : okR [45, 49] := ⟨-1, rt_m1.symm, rd_01.2.2⟩
theorem Tryz.kpix1 : pixR 1 100 ([49], [48], [45, 49]) = .tup [.agg [.int .i64 41, .int .i64 0], .int .i64 0] := by
  unfold pixR
  rw [if_pos (errN_0.2 ⟨fun v hv => by rw [List.mem_singleton.1 hv]; exact ⟨ok_1, ok_0, ok_m1⟩, by decide, by decide⟩)]
  have e : val3 ([49], [48], [45, 49]) = (1, 0, -1) := by simp only [val3, vl_0, vl_1, vl_m1]
  have ea : areaB 1 = false := rfl
  rw [e, ea, show (100 : Int).toNat = 100 from rfl, px_one]
  rfl
theorem Tryz.kpix2 : pixR 2 100 ([49], [48], [49]) = .tup [.agg [.int .i64 (-54), .int .i64 0], .int .i64 0] := by
  unfold pixR
  rw [if_pos (errN_0.2 ⟨fun v hv => by rw [List.mem_singleton.1 hv]; exact ⟨ok_1, ok_0, ok_1⟩, by decide, by decide⟩)]
  have e : val3 ([49], [48], [49]) = (1, 0, 1) := by simp only [val3, vl_0, vl_1]
  have ea : areaB 2 = true := rfl
  rw [e, ea, show (100 : Int).toNat = 100 from rfl, px_two]
  rfl
def dn : S3 := ([48], [48], [45, 49])
theorem Tryz.kpic : picR 1 1 [dn, dn] = .tup [.sl 3 [.str [32, 46, 32], .str [46, 50, 46], .str [32, 46, 32]], .int .i64 0] := by
  have hz : zerE [dn, dn] = 0 := by decide
  have hn : numE [dn, dn] = 0 := num_0.2 (fun v hv => by
    have : v = dn := by simpa using hv
    rw [this]; exact ⟨ok_0, ok_0, ok_m1⟩)
  have he : picE 1 1 [dn, dn] = 0 := by unfold picE; rw [hn, hz]; decide
  unfold picR
  rw [if_pos he]
  have hp : ∀ i, i < 2 → pxs 1 1 [dn, dn] i = (0, 0) := fun i hi => by
    have e : val3 dn = (0, 0, -1) := by simp only [val3, dn, vl_0, vl_m1]
    have : [dn, dn].getD i ([], [], []) = dn := by
      match i, hi with
      | 0, _ => rfl
      | 1, _ => rfl
    unfold pxs
    rw [this, e]
    exact px_down
  have hc : cntP (pxs 1 (1 : Int).toNat [dn, dn]) [dn, dn].length = fun c r => if c = 0 ∧ r = 0 then 2 else 0 := by
    funext c r
    show cntP (pxs 1 1 [dn, dn]) 2 c r = _
    simp only [cntP, hp 0 (by decide), hp 1 (by decide)]
    split <;> simp_all
  rw [hc]
  rfl
set_option maxHeartbeats 4000000 in
theorem Tryz.eqStr3 (x y z : List UInt8) : Con Tryz.prog Tryz.L 37 [.sl 3 [.str x, .str y, .str z], .sl 3 [.str x, .str y, .str z]] (.bool true) := by
  refine rule37 Tryz.hL rfl rfl rfl ?_
  (simp only [pc37, rs37, oU, oC]; refine ev ?_; try with_reducible exact trivial)
  refine loopF_of (fun E => ∃ k : Nat, k ≤ 3 ∧ E = [(0, .sl 3 [.str x, .str y, .str z]), (1, .sl 3 [.str x, .str y, .str z]), (12, .int .i64 3), (13, .int .i64 k)])
    (fun E => match lk E 13 with | .int _ i => 3 - i.toNat | _ => 0) ⟨0, by omega, rfl⟩ ?_
  rintro _ ⟨k, hk, rfl⟩
  obtain rfl | rfl | rfl | rfl : k = 0 ∨ k = 1 ∨ k = 2 ∨ k = 3 := by omega
  · (refine ev ?_; try with_reducible exact trivial)
    exact fun _ => ⟨⟨by decide, by decide⟩, ⟨by decide, by decide⟩, ⟨by decide, by decide⟩, ⟨1, by omega, rfl⟩, by decide⟩
  · (refine ev ?_; try with_reducible exact trivial)
    exact fun _ => ⟨⟨by decide, by decide⟩, ⟨by decide, by decide⟩, ⟨by decide, by decide⟩, ⟨2, by omega, rfl⟩, by decide⟩
  · (refine ev ?_; try with_reducible exact trivial)
    exact fun _ => ⟨⟨by decide, by decide⟩, ⟨by decide, by decide⟩, ⟨by decide, by decide⟩, ⟨3, by omega, rfl⟩, by decide⟩
  · (refine ev ?_; try with_reducible exact trivial)
    exact fun h => absurd h (by omega)
set_option maxRecDepth 100000 in
set_option maxHeartbeats 4000000 in
theorem Tryz.known18 : Con Tryz.prog Tryz.L 10 [] (.bool true) := by
  have c1 := Tryz.sPixel 1 100 ([49], [48], [45, 49]) ⟨by decide, by decide, by decide⟩
  have c2 := Tryz.sPixel 2 100 ([49], [48], [49]) ⟨by decide, by decide, by decide⟩
  have c3 := Tryz.spicture 1 1 [dn, dn] (by decide) (fun v hv => by
    have : v = dn := by simpa using hv
    rw [this]; exact ⟨by decide, by decide, by decide⟩)
  rw [Tryz.kpix1] at c1
  rw [Tryz.kpix2] at c2
  rw [Tryz.kpic] at c3
  have c4 := Tryz.eqStr3 [32, 46, 32] [46, 50, 46] [32, 46, 32]
  have e3 : svs [dn, dn] = [.str [48], .str [48], .str [45, 49], .str [48], .str [48], .str [45, 49]] := rfl
  rw [lS, e3] at c3
  refine rule10 Tryz.hL rfl rfl rfl ?_
  simp only [netD, svD, pc10, rs10, oU, oC, evX, evY, evZ, forall_const, implies_true, initE, stepF, D.clean, mvF, moF, tkF, shF, ariF, ciF, catF, scF, ebF, eqF, eqOk, eqPr, enF, notF, ngF, cvF, csF, csbF, lenF, lenSF, ixF, iaF, PX.slot, iaAF, faF, ldF, D.mem, stF, bxF, mkSF, boundF, fldF, ixAF, mmF2, D.plain, D.isPure, optAll, D.dull, callVF, splice, D.cells, D.one, sets, resT, D.flat, D.flat0, D.simple, Nat.reduceBNe, Nat.reduceLT, reduceIte, Nat.reduceEqDiff, Nat.reduceAdd, Nat.reduceMul, Nat.reduceSub, Nat.reduceLeDiff, Int.reduceToNat, Int.reduceLT, Int.reduceLE, Int.reduceEq, Int.reduceNeg, Int.reduceSub, Int.reduceAdd, Int.reduceMul, stG_own] at c1 c2 c3 ⊢
  refine callF_of c1 ?_
  (refine ev ?_; try with_reducible exact trivial)
  refine callF_of c2 ?_
  (refine ev ?_; try with_reducible exact trivial)
  refine callF_of c3 ?_
  (refine ev ?_; try with_reducible exact trivial)
  refine callF_of c4 ?_
  (refine ev ?_; try with_reducible exact trivial)
end Go.Proofs

/-
  STEREONET: the laws on pixels and lower directions, given the chapter's examples. Own work.
-/
namespace Go.Proofs
open Go Go.Pi Go.RowKit Go.Ar Go.Ne

theorem firE_errN (n : Option (Int × Int)) (l : List S3) : firE n l = errN n l := rfl
theorem any_long {l : List S3} (h : (!l.any longS) = true) : ∀ v ∈ l, szS 12 v := fun v hv => by
  refine Classical.byContradiction fun hn => ?_
  have : l.any longS = true := List.any_eq_true.2 ⟨v, hv, dB_iff.2 hn⟩
  rw [this] at h; cases h
end Go.Proofs

/-
  STEREONET: what the law on pictures calls. Own work.
-/
namespace Go.Proofs
open Go Go.Pi Go.RowKit Go.Shelf Go.Ar Go.Ne

set_option maxHeartbeats 4000000 in
theorem Tryz.lmark (k c r : Int) (R : Nat) (hk : 0 ≤ k ∧ k ≤ 1000) (hc : -30 ≤ c ∧ c ≤ 30) (hr : -30 ≤ r ∧ r ≤ 30) (hR : R ≤ 30) : Con Tryz.prog Tryz.L 32 [.int .i64 k, .agg [.int .i64 c, .int .i64 r], .int .i64 R] (.int .u8 (mrk k c r R)) := by
  have sx := sq900 hc.1 hc.2
  have sy := sq900 hr.1 hr.2
  have sM := sq900 (x := (R : Int)) (by omega) (by omega)
  have m1 : 9 < k → mrk k c r R = 42 := fun h => by unfold mrk; rw [if_pos h]
  have m2 : ¬9 < k → 0 < k → mrk k c r R = 48 + k := fun h h2 => by unfold mrk; rw [if_neg h, if_pos h2]
  have m3 : ¬9 < k → ¬0 < k → c * c + r * r ≤ (R : Int) * R → mrk k c r R = 46 := fun h h2 h3 => by unfold mrk; rw [if_neg h, if_neg h2, if_pos h3]
  have m4 : ¬9 < k → ¬0 < k → ¬c * c + r * r ≤ (R : Int) * R → mrk k c r R = 32 := fun h h2 h3 => by unfold mrk; rw [if_neg h, if_neg h2, if_neg h3]
  generalize mrk k c r R = mm at *
  refine rule32 Tryz.hL rfl rfl rfl ?_
  (simp only [pc32, rs32, oU, oC]; refine ev ?_; try with_reducible exact trivial)
  exact ⟨fun h => (m1 h).symm, fun h => ⟨fun h2 => ⟨⟨by omega, by omega⟩, ⟨by omega, by omega⟩, (m2 h h2).symm⟩, fun h2 => ⟨⟨by omega, by omega⟩, ⟨by omega, by omega⟩, ⟨by omega, by omega⟩, ⟨by omega, by omega⟩, fun h3 => (m3 h h2 h3).symm, fun h3 => (m4 h h2 h3).symm⟩⟩⟩
/-- a byte of a string -/
theorem run_strix {P : Program} {t : TypeId} (ht : P.underlying t = some .string) (w : World) (l : List UInt8) (j : Nat) (b : UInt8) (hb : l[j]? = some b) : (Instr.index t (.string ⟨l.toArray⟩) (.int .i64 j)).run P w = .ok (.int .u8 b.toNat) w := by
  have hlt : j < l.length := (List.getElem?_eq_some_iff.1 hb).1
  have e3 : ((⟨l.toArray⟩ : ByteArray))[j]? = some l[j] := by
    rw [getElem?_pos _ _ (by simpa [ByteArray.size] using hlt)]
    rfl
  have e4 : l[j] = b := by rw [List.getElem?_eq_getElem hlt] at hb; exact Option.some.inj hb
  rw [e4] at e3
  simp [Instr.index, asIntOf, run_underlying ht, e3]
/-- the lines of a picture, as a slice of strings -/
theorem rep_strs {S : Nat → Nat → Prop} {w : World} {n : Nat} {l : List (List UInt8)} {v : Value} (hn : n = l.length) (h0 : 0 < n) (h : Rep S w (.sl n (l.map .str)) v) : ∃ b off cap, v = .slice (some ⟨b, off, none⟩) n cap ∧ ∀ i x, l[i]? = some x → S b (off + i) ∧ w.cell? ⟨b, off + i, none⟩ = some (.string ⟨x.toArray⟩) := by
  generalize hd : D.sl n (l.map .str) = d at h
  cases h with
  | bool | int | str | agg | tup | pt | clo | errN | errS | nilP => cases hd
  | sl0 a cap hc => injection hd with h1 h2; omega
  | slN => injection hd with h1 h2; omega
  | sl n ds b off cap vs hl h1 hn hc hr h =>
    injection hd with e1 e2
    subst e1; subst e2
    refine ⟨b, off, cap, rfl, fun i x hx => ?_⟩
    have hil : i < l.length := (List.getElem?_eq_some_iff.1 hx).1
    have hu : vs[i]? = some (vs[i]'(by rw [← hl, List.length_map]; exact hil)) := List.getElem?_eq_getElem _
    generalize vs[i]'(by rw [← hl, List.length_map]; exact hil) = u at hu
    have h2 := h i (.str x) u (by rw [List.getElem?_map, hx]; rfl) hu
    have h3 := h2.str_inv.1
    subst h3
    exact hr i _ hu
theorem picE_want {k R : Int} {l : List S3} (hl : l.length ≤ 400) : picE k R l = if (errN (some (k, R)) l = 0 ∨ errN (some (k, R)) l = 17) ∧ 30 < R then 4 else errN (some (k, R)) l := by
  unfold picE errN
  simp only
  by_cases h1 : numE l = 0
  · by_cases h2 : netE k R = 0
    · by_cases h3 : 30 < R
      · by_cases h4 : zerE l = 0
        · simp [h1, h2, h3, h4]
        · have h5 : zerE l = 17 := by
            unfold zerE at *
            cases hb : l.any zS
            · rw [hb] at h4; exact absurd rfl h4
            · rfl
          simp [h1, h2, h3, h5]
      · have h6 : ¬400 < l.length := by omega
        simp [h1, h2, h3, h6]
    · have h7 : netE k R = 12 ∨ netE k R = 3 := by
        unfold netE at *
        repeat' split at h2
        all_goals simp_all
      rcases h7 with h | h <;> simp [h1, h]
  · have : numE l = 2 := by
      unfold numE at *
      exact chk_f (fun hp => h1 (chk_t hp))
    simp [this]
theorem svs_flat (l : List S3) : ∀ c, (List.replicate c (svs l)).flatten = svs ((List.replicate c l).flatten)
  | 0 => rfl
  | c + 1 => by
    rw [List.replicate_succ, List.flatten_cons, svs_flat l c, List.replicate_succ, List.flatten_cons]
    simp [rows]
end Go.Proofs

/-
  STEREONET: the law on pictures, in the plain walk. Own work.
-/
namespace Go.Proofs
open Go Go.Pi Go.RowKit Go.Shelf Go.Ar Go.Ne

theorem rep_tup2 {S : Nat → Nat → Prop} {w : World} {d : D} {e : Int} {v : Value} (h : Rep S w (.tup [d, .int .i64 e]) v) : ∃ vt, v = .tuple #[vt, .int .i64 e] ∧ Rep S w d vt := by
  cases h with
  | tup ds vs hl h =>
    match vs, hl with
    | [a, b], _ =>
      obtain rfl := (h 1 _ b rfl rfl).int_inv
      exact ⟨a, rfl, h 0 _ a rfl rfl⟩
theorem rep_sl0' {S : Nat → Nat → Prop} {w : World} {v : Value} (h : Rep S w (.sl 0 []) v) : ∃ a c, v = .slice a 0 c := by
  cases h with
  | sl0 a cap hc => exact ⟨a, cap, rfl⟩
  | sl n ds b off cap vs hl h1 hn hc hr h => exact ⟨_, cap, rfl⟩
theorem rep_ptr2 {w : World} {b : Nat} {k R : Int} (g0 : w.cell? ⟨b, 0, none⟩ = some (.int .i64 k)) (g1 : w.cell? ⟨b, 1, none⟩ = some (.int .i64 R)) (hlt : b < w.heap.size) : Rep (fun b _ => b < w.heap.size) w (.pt [.int .i64 k, .int .i64 R]) (.pointer (some ⟨b, 0, none⟩)) := by
  refine .pt [.int .i64 k, .int .i64 R] b 0 [.int .i64 k, .int .i64 R] rfl (by simp [D.one]) (fun i v hv => ?_) (fun i d v hd hv => ?_)
  · match i with
    | 0 => cases hv; exact ⟨hlt, g0⟩
    | 1 => cases hv; exact ⟨hlt, g1⟩
    | i + 2 => simp at hv
  · match i with
    | 0 => cases hd; cases hv; exact .int _ _
    | 1 => cases hd; cases hv; exact .int _ _
    | i + 2 => simp at hd
set_option maxRecDepth 100000 in
set_option maxHeartbeats 8000000 in
theorem Tryz.stereonetPictures (k R : Int) (l : List S3) (n : Int) (hR : inR .i64 R) (h0 : 0 ≤ n) (h1 : n ≤ 255) (hl : l.length ≤ 1048576) (hz : ∀ v ∈ l, szS 1048576 v) : Con Tryz.prog Tryz.L 7 [netD k R, lS l, .int .u8 n] (.bool true) := by
  have mixed : Tryz.prog.follows .mixedOrders = true := by kernel_rfl
  have t0 := Tryz.underlying46; have a0 := Tryz.isAgg46; have z0 := Tryz.sizeOf46; have v0 := Tryz.zeroValue46; have u0 := run_underlying Tryz.underlying46
  have t1 := Tryz.underlying26; have a1 := Tryz.isAgg26; have z1 := Tryz.sizeOf26; have v1 := Tryz.zeroValue26; have u1 := run_underlying Tryz.underlying26
  have t2 := Tryz.underlying23; have a2 := Tryz.isAgg23; have z2 := Tryz.sizeOf23; have v2 := Tryz.zeroValue23; have u2 := run_underlying Tryz.underlying23
  have t3 := Tryz.underlying4; have a3 := Tryz.isAgg4; have z3 := Tryz.sizeOf4; have v3 := Tryz.zeroValue4; have u3 := run_underlying Tryz.underlying4
  have t4 := Tryz.underlying3; have a4 := Tryz.isAgg3; have z4 := Tryz.sizeOf3; have v4 := Tryz.zeroValue3; have u4 := run_underlying Tryz.underlying3
  have t5 := Tryz.underlying31; have a5 := Tryz.isAgg31; have z5 := Tryz.sizeOf31; have v5 := Tryz.zeroValue31; have u5 := run_underlying Tryz.underlying31
  have t6 := Tryz.underlying30; have a6 := Tryz.isAgg30; have z6 := Tryz.sizeOf30; have v6 := Tryz.zeroValue30; have u6 := run_underlying Tryz.underlying30
  have t7 := Tryz.underlying64; have a7 := Tryz.isAgg64; have z7 := Tryz.sizeOf64; have v7 := Tryz.zeroValue64; have u7 := run_underlying Tryz.underlying64
  have t8 := Tryz.underlying9; have a8 := Tryz.isAgg9; have z8 := Tryz.sizeOf9; have v8 := Tryz.zeroValue9; have u8 := run_underlying Tryz.underlying9
  have t10 := Tryz.underlying5; have a10 := Tryz.isAgg5; have z10 := Tryz.sizeOf5; have v10 := Tryz.zeroValue5; have u10 := run_underlying Tryz.underlying5
  have t12 := Tryz.underlying24; have a12 := Tryz.isAgg24; have z12 := Tryz.sizeOf24; have v12 := Tryz.zeroValue24; have u12 := run_underlying Tryz.underlying24
  have t11 := Tryz.underlying67
  have cK := Tryz.known18
  refine ⟨⟨by kernel_rfl, rfl⟩, fun S W vs hS hL hrep => ?_⟩
  obtain ⟨va, r1, rfl, hra, t1'⟩ := hrep.uncons
  obtain ⟨vb, r2, rfl, hrb, t2'⟩ := t1'.uncons
  obtain ⟨vc, r3, rfl, hrc, t3'⟩ := t2'.uncons
  obtain rfl : r3 = [] := List.length_eq_zero_iff.1 t3'.1.symm
  obtain rfl := rep_netinv hra
  obtain rfl : vc = .int .u8 n := by cases hrc; rfl
  clear t1' t2' t3' hrep hra hrc
  obtain ⟨ad, cap, rfl, _⟩ := rep_vecs hrb
  have HR : Hid (Rep S W (lS l) (.slice ad l.length cap)) := hrb
  have HS : Hid (∀ b j, S b j → b < W.heap.size) := hS
  clear hrb hS
  have hbB : Below W.heap.size W (W.alloc (Obj.cells #[Value.int IntKind.i64 k, Value.int IntKind.i64 R] 23)) := (Below.refl _ W).alloc (Nat.le_refl _) _
  have hKn := fun (w : World) (hb : Below W.heap.size W w) => cK.2 (fun _ _ => False) w [] (fun _ _ h => h.elim) (Tryz.hL W w hL hb) .nil
  have HK : Hid _ := hKn
  have hK1 := hKn _ hbB
  clear cK hKn
  show Calls _ _ #[.agg #[.int .i64 k, .int .i64 R], .slice ad l.length cap, .int .u8 n] _ _
  by_cases h6 : 6 < l.length
  · have i1 : (l.length : Int) > 6 := by omega
    go_enter Tryz.func7, Tryz.ntmps7
    go_wp2_with (go_at_call 10; refine Calls.mono hK1 ?_; rintro e W1 ⟨v, rfl, hb1, hr1⟩; obtain rfl : v = .bool true := (by cases hr1; rfl); clear hr1; have hb01 := hbB.trans (hb1.mono hbB.size))
    refine Calls.mono (HK.out _ hb01) ?_
    rintro e W2 ⟨v, rfl, hb2, hr2⟩
    obtain rfl : v = .bool true := (by cases hr2; rfl)
    clear hr2
    go_wp2
    go_ret
    exact ⟨_, rfl, hb01.trans (hb2.mono hb01.size), .bool _⟩
  · have i1 : ¬((l.length : Int) > 6) := by omega
    have cB := Tryz.lbrief l (by omega) hz
    have hB := fun (w : World) (hb : Below W.heap.size W w) => cB.2 S w [.slice ad l.length cap] (fun b j z => Nat.lt_of_lt_of_le (HS.out b j z) hb.size) (Tryz.hL W w hL hb)
      (Reps.cons (HR.out.mono (fun _ _ z => z) (fun b o z => hb.cell (p := ⟨b, o, none⟩) (HS.out b o z))) .nil)
    have HB : Hid _ := hB
    clear hB cB
    cases hbr : (!l.any longS) with
    | false =>
      rw [hbr] at HB
      go_enter Tryz.func7, Tryz.ntmps7
      go_wp2_with (go_at_call 10; refine Calls.mono hK1 ?_; rintro e W1 ⟨v, rfl, hb1, hr1⟩; obtain rfl : v = .bool true := (by cases hr1; rfl); clear hr1; have hb01 := hbB.trans (hb1.mono hbB.size))
      refine Calls.mono (HB.out _ hb01) ?_
      rintro e W2 ⟨v, rfl, hb2, hr2⟩
      obtain rfl : v = .bool false := (by cases hr2; rfl)
      clear hr2
      have hb02 := hb01.trans (hb2.mono hb01.size)
      go_wp2_with fail
      refine Calls.mono (HK.out _ hb02) ?_
      rintro e W3 ⟨v, rfl, hb3, hr3⟩
      obtain rfl : v = .bool true := (by cases hr3; rfl)
      clear hr3
      go_wp2
      go_ret
      exact ⟨_, rfl, hb02.trans (hb3.mono hb02.size), .bool _⟩
    | true =>
      rw [hbr] at HB
      have h12 := any_long hbr
      obtain ⟨m, hm, hm3⟩ : ∃ m : Nat, n.tmod 3 = m ∧ m < 3 := ⟨(n.tmod 3).toNat, by rw [Int.tmod_eq_emod_of_nonneg h0]; omega, by rw [Int.tmod_eq_emod_of_nonneg h0]; omega⟩
      obtain ⟨L, hLe⟩ : ∃ L, L = (List.replicate (1 + m) l).flatten := ⟨_, rfl⟩
      have hLl : L.length = (1 + m) * l.length := by rw [hLe, repl_len]
      have hL18 : L.length ≤ 18 := by rw [hLl]; exact Nat.le_trans (Nat.mul_le_mul (show 1 + m ≤ 3 by omega) (show l.length ≤ 6 by omega)) (by decide)
      have hL12 : ∀ v ∈ L, szS 12 v := fun v hv => by
        rw [hLe] at hv
        obtain ⟨x, hx, hv⟩ := List.mem_flatten.1 hv
        rw [(List.mem_replicate.1 hx).2] at hv
        exact h12 v hv
      have hmo : ∀ {v : S3} {k : Nat}, szS 12 v → 12 ≤ k → szS k v := fun h hk => by obtain ⟨x, y, z⟩ := h; exact ⟨by omega, by omega, by omega⟩
      have cR := Tryz.vrepeat l.length (1 + m) (svs l) (svs_len l) (by omega) (by omega)
      rw [svs_flat, ← hLe, ← hLl, show ((1 + m : Nat) : Int) = 1 + (m : Int) by omega] at cR
      have hRp := fun (w : World) (hb : Below W.heap.size W w) => cR.2 S w [.slice ad l.length cap, .int .i64 (1 + (m : Int))] (fun b j z => Nat.lt_of_lt_of_le (HS.out b j z) hb.size) (Tryz.hL W w hL hb)
        (Reps.cons (HR.out.mono (fun _ _ z => z) (fun b o z => hb.cell (p := ⟨b, o, none⟩) (HS.out b o z))) (Reps.cons (.int _ _) .nil))
      have HRp : Hid _ := hRp
      have cP := Tryz.spicture k R L (by omega) (fun v hv => hmo (hL12 v hv) (by decide))
      have hPi := fun (w : World) (vL : Value) (hb : Below W.heap.size W w) (hr : Rep (fun b _ => b < w.heap.size) w (lS L) vL) => cP.2 (fun b _ => b < w.heap.size) w [.agg #[.int .i64 k, .int .i64 R], vL] (fun b j z => z) (Tryz.hL W w hL hb) (Reps.cons (rep_netv _ _ _ _) (Reps.cons hr .nil))
      have HPi : Hid _ := hPi
      have cF := Tryz.lfirstP k R L (by omega) (fun v hv => hmo (hL12 v hv) (by decide))
      rw [firE_errN] at cF
      have hFi := fun (w : World) (vL : Value) (hb : Below W.heap.size W w) (hr : Rep (fun b _ => b < w.heap.size) w (lS L) vL) (g0 : w.cell? ⟨W.heap.size, 0, none⟩ = some (.int .i64 k)) (g1 : w.cell? ⟨W.heap.size, 1, none⟩ = some (.int .i64 R)) (hlt : W.heap.size < w.heap.size) =>
        cF.2 (fun b _ => b < w.heap.size) w [.pointer (some ⟨W.heap.size, 0, none⟩), .int .i64 0, vL] (fun b j z => z) (Tryz.hL W w hL hb) (Reps.cons (rep_ptr2 g0 g1 hlt) (Reps.cons (.int _ _) (Reps.cons hr .nil)))
      have HFi : Hid _ := hFi
      have hLL : ∀ (w w' : World) (v : Value), Below W.heap.size W w' → Res Tryz.prog S w w' (.sl L.length (svs L)) v → Rep (fun b _ => b < w'.heap.size) w' (lS L) v := fun w w' v hb hr => Rep.mono (fun b o z => z.elim (fun z => Nat.lt_of_lt_of_le (HS.out b o z) hb.size) (fun z => z.2)) (fun _ _ _ => rfl) (show Rep _ w' (.sl L.length (svs L)) v from hr)
      have HLL : Hid _ := hLL
      have hpw := picE_want (k := k) (R := R) (l := L) (by omega)
      have hpR : picE k R L ≠ 0 → picR k R L = .tup [.sl 0 [], .int .i64 (picE k R L)] := fun h => by unfold picR; rw [if_neg h]
      have hq0 : (W.alloc (Obj.cells #[Value.int IntKind.i64 k, Value.int IntKind.i64 R] 23)).cell? ⟨W.heap.size, 0, none⟩ = some (.int .i64 k) := by simp
      have hq1 : (W.alloc (Obj.cells #[Value.int IntKind.i64 k, Value.int IntKind.i64 R] 23)).cell? ⟨W.heap.size, 1, none⟩ = some (.int .i64 R) := by simp
      have hsz1 : W.heap.size < (W.alloc (Obj.cells #[Value.int IntKind.i64 k, Value.int IntKind.i64 R] 23)).heap.size := by simp
      have HPW : Hid _ := hpw
      have HM : Hid (n.tmod 3 = m) := hm
      clear hRp cR hPi cP hFi cF hLL hpw hLe hLl h12
      by_cases r30 : R > 30
      · by_cases w0 : errN (some (k, R)) L = 0
        · have hpe : picE k R L = 4 := by rw [HPW.out, if_pos ⟨.inl w0, r30⟩]
          have hpR2 := hpR (by rw [hpe]; decide)
          rw [hpe] at hpR2
          go_enter Tryz.func7, Tryz.ntmps7
          go_wp2_with (go_at_call 10; refine Calls.mono hK1 ?_; rintro e W1 ⟨v, rfl, hb1, hr1⟩; obtain rfl : v = .bool true := (by cases hr1; rfl); clear hr1; have hb01 := hbB.trans (hb1.mono hbB.size); have q10 := (hb1.cell (p := ⟨W.heap.size, 0, none⟩) hsz1).trans hq0; have q11 := (hb1.cell (p := ⟨W.heap.size, 1, none⟩) hsz1).trans hq1)
          refine Calls.mono (HB.out _ hb01) ?_
          rintro e W2 ⟨v, rfl, hb2, hr2⟩
          obtain rfl : v = .bool true := (by cases hr2; rfl)
          clear hr2
          have hb02 := hb01.trans (hb2.mono hb01.size)
          have hl1 : W.heap.size < W1.heap.size := Nat.lt_of_lt_of_le hsz1 hb1.size
          have q20 := (hb2.cell (p := ⟨W.heap.size, 0, none⟩) hl1).trans q10
          have q21 := (hb2.cell (p := ⟨W.heap.size, 1, none⟩) hl1).trans q11
          have hl2 : W.heap.size < W2.heap.size := Nat.lt_of_lt_of_le hl1 hb2.size
          clear q10 q11 hb1 hb2 hl1
          go_wp2_with fail
          refine Calls.mono (HRp.out _ hb02) ?_
          rintro e W3 ⟨vL, rfl, hb3, hr3⟩
          have hb03 := hb02.trans (hb3.mono hb02.size)
          have hr3' := HLL.out _ _ _ hb03 hr3
          clear hr3
          have q30 := (hb3.cell (p := ⟨W.heap.size, 0, none⟩) hl2).trans q20
          have q31 := (hb3.cell (p := ⟨W.heap.size, 1, none⟩) hl2).trans q21
          have hl3 : W.heap.size < W3.heap.size := Nat.lt_of_lt_of_le hl2 hb3.size
          clear q20 q21 hb3 hl2
          obtain ⟨aL, cL, rfl, hvec⟩ := rep_vecs hr3'
          have HV : Hid _ := hvec
          have HL3 : Hid (Rep (fun b _ => b < W3.heap.size) W3 (lS L) (.slice aL L.length cL)) := hr3'
          clear hvec hr3'
          have hPi := HPi.out W3 (.slice aL L.length cL) hb03 HL3.out
          rw [hpR2] at hPi
          go_wp2_with (go_at_call 31; refine Calls.mono hPi ?_; rintro e W4 ⟨vT, rfl, hb4, hr4⟩; obtain ⟨vt, rfl, hrt⟩ := rep_tup2 hr4; clear hr4; have hb04 := hb03.trans (hb4.mono hb03.size); have q40 := (hb4.cell (p := ⟨W.heap.size, 0, none⟩) hl3).trans q30; have q41 := (hb4.cell (p := ⟨W.heap.size, 1, none⟩) hl3).trans q31; have hl4 : W.heap.size < W4.heap.size := Nat.lt_of_lt_of_le hl3 hb4.size; have HT : Hid _ := hrt; clear hrt hPi)
          have hFi := HFi.out W4 (.slice aL L.length cL) hb04 (HL3.out.mono (fun b j z => Nat.lt_of_lt_of_le z hb4.size) (fun b o z => hb4.cell (p := ⟨b, o, none⟩) z)) q40 q41 hl4
          rw [w0] at hFi
          refine Calls.mono hFi ?_
          rintro e W5 ⟨v, rfl, hb5, hr5⟩
          obtain rfl : v = .int .i64 0 := (by cases hr5; rfl)
          clear hr5 hFi
          have hb05 := hb04.trans (hb5.mono hb04.size)
          have q50 := (hb5.cell (p := ⟨W.heap.size, 0, none⟩) hl4).trans q40
          have q51 := (hb5.cell (p := ⟨W.heap.size, 1, none⟩) hl4).trans q41
          have hl5 : W.heap.size < W5.heap.size := Nat.lt_of_lt_of_le hl4 hb5.size
          clear q30 q31 q40 q41 hl3 hl4
          obtain ⟨aT, cT, rfl⟩ := rep_sl0' HT.out
          go_wp2
          all_goals
            go_ret
            exact ⟨_, rfl, hb05, .bool _⟩
        · by_cases w7 : errN (some (k, R)) L = 17
          · have hpe : picE k R L = 4 := by rw [HPW.out, if_pos ⟨.inr w7, r30⟩]
            have hpR2 := hpR (by rw [hpe]; decide)
            rw [hpe] at hpR2
            go_enter Tryz.func7, Tryz.ntmps7
            go_wp2_with (go_at_call 10; refine Calls.mono hK1 ?_; rintro e W1 ⟨v, rfl, hb1, hr1⟩; obtain rfl : v = .bool true := (by cases hr1; rfl); clear hr1; have hb01 := hbB.trans (hb1.mono hbB.size); have q10 := (hb1.cell (p := ⟨W.heap.size, 0, none⟩) hsz1).trans hq0; have q11 := (hb1.cell (p := ⟨W.heap.size, 1, none⟩) hsz1).trans hq1)
            refine Calls.mono (HB.out _ hb01) ?_
            rintro e W2 ⟨v, rfl, hb2, hr2⟩
            obtain rfl : v = .bool true := (by cases hr2; rfl)
            clear hr2
            have hb02 := hb01.trans (hb2.mono hb01.size)
            have hl1 : W.heap.size < W1.heap.size := Nat.lt_of_lt_of_le hsz1 hb1.size
            have q20 := (hb2.cell (p := ⟨W.heap.size, 0, none⟩) hl1).trans q10
            have q21 := (hb2.cell (p := ⟨W.heap.size, 1, none⟩) hl1).trans q11
            have hl2 : W.heap.size < W2.heap.size := Nat.lt_of_lt_of_le hl1 hb2.size
            clear q10 q11 hb1 hb2 hl1
            go_wp2_with fail
            refine Calls.mono (HRp.out _ hb02) ?_
            rintro e W3 ⟨vL, rfl, hb3, hr3⟩
            have hb03 := hb02.trans (hb3.mono hb02.size)
            have hr3' := HLL.out _ _ _ hb03 hr3
            clear hr3
            have q30 := (hb3.cell (p := ⟨W.heap.size, 0, none⟩) hl2).trans q20
            have q31 := (hb3.cell (p := ⟨W.heap.size, 1, none⟩) hl2).trans q21
            have hl3 : W.heap.size < W3.heap.size := Nat.lt_of_lt_of_le hl2 hb3.size
            clear q20 q21 hb3 hl2
            obtain ⟨aL, cL, rfl, hvec⟩ := rep_vecs hr3'
            have HV : Hid _ := hvec
            have HL3 : Hid (Rep (fun b _ => b < W3.heap.size) W3 (lS L) (.slice aL L.length cL)) := hr3'
            clear hvec hr3'
            have hPi := HPi.out W3 (.slice aL L.length cL) hb03 HL3.out
            rw [hpR2] at hPi
            go_wp2_with (go_at_call 31; refine Calls.mono hPi ?_; rintro e W4 ⟨vT, rfl, hb4, hr4⟩; obtain ⟨vt, rfl, hrt⟩ := rep_tup2 hr4; clear hr4; have hb04 := hb03.trans (hb4.mono hb03.size); have q40 := (hb4.cell (p := ⟨W.heap.size, 0, none⟩) hl3).trans q30; have q41 := (hb4.cell (p := ⟨W.heap.size, 1, none⟩) hl3).trans q31; have hl4 : W.heap.size < W4.heap.size := Nat.lt_of_lt_of_le hl3 hb4.size; have HT : Hid _ := hrt; clear hrt hPi)
            have hFi := HFi.out W4 (.slice aL L.length cL) hb04 (HL3.out.mono (fun b j z => Nat.lt_of_lt_of_le z hb4.size) (fun b o z => hb4.cell (p := ⟨b, o, none⟩) z)) q40 q41 hl4
            rw [w7] at hFi
            refine Calls.mono hFi ?_
            rintro e W5 ⟨v, rfl, hb5, hr5⟩
            obtain rfl : v = .int .i64 17 := (by cases hr5; rfl)
            clear hr5 hFi
            have hb05 := hb04.trans (hb5.mono hb04.size)
            have q50 := (hb5.cell (p := ⟨W.heap.size, 0, none⟩) hl4).trans q40
            have q51 := (hb5.cell (p := ⟨W.heap.size, 1, none⟩) hl4).trans q41
            have hl5 : W.heap.size < W5.heap.size := Nat.lt_of_lt_of_le hl4 hb5.size
            clear q30 q31 q40 q41 hl3 hl4
            obtain ⟨aT, cT, rfl⟩ := rep_sl0' HT.out
            go_wp2
            all_goals
              go_ret
              exact ⟨_, rfl, hb05, .bool _⟩
          · have hpe : picE k R L = errN (some (k, R)) L := by rw [HPW.out, if_neg (fun h => h.1.elim w0 w7)]
            have hpR2 := hpR (by rw [hpe]; exact w0)
            rw [hpe] at hpR2
            generalize errN (some (k, R)) L = ew at *
            go_enter Tryz.func7, Tryz.ntmps7
            go_wp2_with (go_at_call 10; refine Calls.mono hK1 ?_; rintro e W1 ⟨v, rfl, hb1, hr1⟩; obtain rfl : v = .bool true := (by cases hr1; rfl); clear hr1; have hb01 := hbB.trans (hb1.mono hbB.size); have q10 := (hb1.cell (p := ⟨W.heap.size, 0, none⟩) hsz1).trans hq0; have q11 := (hb1.cell (p := ⟨W.heap.size, 1, none⟩) hsz1).trans hq1)
            refine Calls.mono (HB.out _ hb01) ?_
            rintro e W2 ⟨v, rfl, hb2, hr2⟩
            obtain rfl : v = .bool true := (by cases hr2; rfl)
            clear hr2
            have hb02 := hb01.trans (hb2.mono hb01.size)
            have hl1 : W.heap.size < W1.heap.size := Nat.lt_of_lt_of_le hsz1 hb1.size
            have q20 := (hb2.cell (p := ⟨W.heap.size, 0, none⟩) hl1).trans q10
            have q21 := (hb2.cell (p := ⟨W.heap.size, 1, none⟩) hl1).trans q11
            have hl2 : W.heap.size < W2.heap.size := Nat.lt_of_lt_of_le hl1 hb2.size
            clear q10 q11 hb1 hb2 hl1
            go_wp2_with fail
            refine Calls.mono (HRp.out _ hb02) ?_
            rintro e W3 ⟨vL, rfl, hb3, hr3⟩
            have hb03 := hb02.trans (hb3.mono hb02.size)
            have hr3' := HLL.out _ _ _ hb03 hr3
            clear hr3
            have q30 := (hb3.cell (p := ⟨W.heap.size, 0, none⟩) hl2).trans q20
            have q31 := (hb3.cell (p := ⟨W.heap.size, 1, none⟩) hl2).trans q21
            have hl3 : W.heap.size < W3.heap.size := Nat.lt_of_lt_of_le hl2 hb3.size
            clear q20 q21 hb3 hl2
            obtain ⟨aL, cL, rfl, hvec⟩ := rep_vecs hr3'
            have HV : Hid _ := hvec
            have HL3 : Hid (Rep (fun b _ => b < W3.heap.size) W3 (lS L) (.slice aL L.length cL)) := hr3'
            clear hvec hr3'
            have hPi := HPi.out W3 (.slice aL L.length cL) hb03 HL3.out
            rw [hpR2] at hPi
            go_wp2_with (go_at_call 31; refine Calls.mono hPi ?_; rintro e W4 ⟨vT, rfl, hb4, hr4⟩; obtain ⟨vt, rfl, hrt⟩ := rep_tup2 hr4; clear hr4; have hb04 := hb03.trans (hb4.mono hb03.size); have q40 := (hb4.cell (p := ⟨W.heap.size, 0, none⟩) hl3).trans q30; have q41 := (hb4.cell (p := ⟨W.heap.size, 1, none⟩) hl3).trans q31; have hl4 : W.heap.size < W4.heap.size := Nat.lt_of_lt_of_le hl3 hb4.size; have HT : Hid _ := hrt; clear hrt hPi)
            have hFi := HFi.out W4 (.slice aL L.length cL) hb04 (HL3.out.mono (fun b j z => Nat.lt_of_lt_of_le z hb4.size) (fun b o z => hb4.cell (p := ⟨b, o, none⟩) z)) q40 q41 hl4
            refine Calls.mono hFi ?_
            rintro e W5 ⟨v, rfl, hb5, hr5⟩
            obtain rfl : v = .int .i64 ew := (by cases hr5; rfl)
            clear hr5 hFi
            have hb05 := hb04.trans (hb5.mono hb04.size)
            have q50 := (hb5.cell (p := ⟨W.heap.size, 0, none⟩) hl4).trans q40
            have q51 := (hb5.cell (p := ⟨W.heap.size, 1, none⟩) hl4).trans q41
            have hl5 : W.heap.size < W5.heap.size := Nat.lt_of_lt_of_le hl4 hb5.size
            clear q30 q31 q40 q41 hl3 hl4
            have hew : (ew == 0) = false := by simpa using w0
            have hew7 : (ew == 17) = false := by simpa using w7
            obtain ⟨aT, cT, rfl⟩ := rep_sl0' HT.out
            go_wp2
            all_goals
              go_ret
              exact ⟨_, rfl, hb05, .bool _⟩
      · by_cases w0 : errN (some (k, R)) L = 0
        · have hpe : picE k R L = 0 := by rw [HPW.out, if_neg (fun h => r30 h.2)]; exact w0
          obtain ⟨e1, ⟨e2, e3, e4⟩, e5⟩ := errN_0.1 w0
          have hpR2 : picR k R L = .tup [.sl (2 * R.toNat + 1) ((picB (cntP (pxs k R.toNat L) L.length) R.toNat (2 * R.toNat + 1)).map .str), .int .i64 0] := by unfold picR; rw [if_pos hpe]
          have HE : Hid (∀ v ∈ L, ok3 v) := e1
          have HM2 : Hid (∃ M : Nat, R = M) := ⟨R.toNat, by omega⟩
          obtain ⟨M, rfl⟩ := HM2.out
          rw [show ((M : Int)).toNat = M by omega] at hpR2
          have HF : Hid (∀ c r, 0 ≤ cntP (pxs k M L) L.length c r ∧ cntP (pxs k M L) L.length c r ≤ 1000) := fun c r => by have := cntP_le (pxs k M L) L.length c r; omega
          clear e1 e5 hpe
          go_enter Tryz.func7, Tryz.ntmps7
          go_wp2_with (go_at_call 10; refine Calls.mono hK1 ?_; rintro e W1 ⟨v, rfl, hb1, hr1⟩; obtain rfl : v = .bool true := (by cases hr1; rfl); clear hr1; have hb01 := hbB.trans (hb1.mono hbB.size); have q10 := (hb1.cell (p := ⟨W.heap.size, 0, none⟩) hsz1).trans hq0; have q11 := (hb1.cell (p := ⟨W.heap.size, 1, none⟩) hsz1).trans hq1)
          refine Calls.mono (HB.out _ hb01) ?_
          rintro e W2 ⟨v, rfl, hb2, hr2⟩
          obtain rfl : v = .bool true := (by cases hr2; rfl)
          clear hr2
          have hb02 := hb01.trans (hb2.mono hb01.size)
          have hl1 : W.heap.size < W1.heap.size := Nat.lt_of_lt_of_le hsz1 hb1.size
          have q20 := (hb2.cell (p := ⟨W.heap.size, 0, none⟩) hl1).trans q10
          have q21 := (hb2.cell (p := ⟨W.heap.size, 1, none⟩) hl1).trans q11
          have hl2 : W.heap.size < W2.heap.size := Nat.lt_of_lt_of_le hl1 hb2.size
          clear q10 q11 hb1 hb2 hl1
          go_wp2_with fail
          refine Calls.mono (HRp.out _ hb02) ?_
          rintro e W3 ⟨vL, rfl, hb3, hr3⟩
          have hb03 := hb02.trans (hb3.mono hb02.size)
          have hr3' := HLL.out _ _ _ hb03 hr3
          clear hr3
          have q30 := (hb3.cell (p := ⟨W.heap.size, 0, none⟩) hl2).trans q20
          have q31 := (hb3.cell (p := ⟨W.heap.size, 1, none⟩) hl2).trans q21
          have hl3 : W.heap.size < W3.heap.size := Nat.lt_of_lt_of_le hl2 hb3.size
          clear q20 q21 hb3 hl2
          obtain ⟨aL, cL, rfl, hvec⟩ := rep_vecs hr3'
          have HV : Hid _ := hvec
          have HL3 : Hid (Rep (fun b _ => b < W3.heap.size) W3 (lS L) (.slice aL L.length cL)) := hr3'
          clear hvec hr3'
          have hPi := HPi.out W3 (.slice aL L.length cL) hb03 HL3.out
          rw [hpR2] at hPi
          go_wp2_with (go_at_call 31; refine Calls.mono hPi ?_; rintro e W4 ⟨vT, rfl, hb4, hr4⟩; obtain ⟨vt, rfl, hrt⟩ := rep_tup2 hr4; clear hr4; have hb04 := hb03.trans (hb4.mono hb03.size); have q40 := (hb4.cell (p := ⟨W.heap.size, 0, none⟩) hl3).trans q30; have q41 := (hb4.cell (p := ⟨W.heap.size, 1, none⟩) hl3).trans q31; have hl4 : W.heap.size < W4.heap.size := Nat.lt_of_lt_of_le hl3 hb4.size; have HT : Hid _ := hrt; clear hrt hPi)
          have hFi := HFi.out W4 (.slice aL L.length cL) hb04 (HL3.out.mono (fun b j z => Nat.lt_of_lt_of_le z hb4.size) (fun b o z => hb4.cell (p := ⟨b, o, none⟩) z)) q40 q41 hl4
          rw [w0] at hFi
          refine Calls.mono hFi ?_
          rintro e W5 ⟨v, rfl, hb5, hr5⟩
          obtain rfl : v = .int .i64 0 := (by cases hr5; rfl)
          clear hr5 hFi
          have hb05 := hb04.trans (hb5.mono hb04.size)
          have q50 := (hb5.cell (p := ⟨W.heap.size, 0, none⟩) hl4).trans q40
          have q51 := (hb5.cell (p := ⟨W.heap.size, 1, none⟩) hl4).trans q41
          have hl5 : W.heap.size < W5.heap.size := Nat.lt_of_lt_of_le hl4 hb5.size
          clear q30 q31 q40 q41 hl3 hl4
          clear hpR2
          obtain ⟨bT, oT, cT, rfl, hcT⟩ := rep_strs (picB_len _ _ _).symm (by omega) HT.out
          have HCT : Hid _ := hcT
          clear hcT
          have r30' : (M : Int) ≤ 30 := by omega
          obtain ⟨W6, hmk, hcnt, hb6⟩ : ∃ W6, (Instr.makeMap 67 none).run Tryz.prog W5 = .ok (.map (some W5.heap.size)) W6 ∧ Tryz.cntM W6 W5.heap.size 0 (fun _ _ => 0) ∧ Below W5.heap.size W5 W6 :=
            ⟨_, rfl, Tryz.cntM_made W5, (Below.refl _ W5).alloc (Nat.le_refl _) _⟩
          have hb35 := hb4.trans (hb5.mono hb4.size)
          have hl36 : W3.heap.size ≤ W5.heap.size := hb35.size
          have hl46 : W4.heap.size ≤ W5.heap.size := hb5.size
          go_wp2_with fail
          go_loopg [69] L.length (fun gg s69 wr => ∃ i : Nat, s69 = .int .i64 i ∧ i ≤ L.length ∧ L.length ≤ gg + i ∧ Tryz.cntM wr W5.heap.size i (cntP (pxs k M L) i) ∧ Below W5.heap.size W5 wr)
          case atStart => exact ⟨0, rfl, Nat.zero_le _, by omega, hcnt, hb6⟩
          case round =>
            clear hcnt hb6 hmk
            obtain ⟨i, rfl, hi, hgg, hcnt, hbw⟩ := hrel
            have q60 := (hbw.cell (p := ⟨W.heap.size, 0, none⟩) hl5).trans q50
            have q61 := (hbw.cell (p := ⟨W.heap.size, 1, none⟩) hl5).trans q51
            by_cases hlt : i < L.length
            · have j0 : (0 : Int) ≤ (i : Int) := Int.natCast_nonneg _
              have j1 : (i : Int) < (L.length : Int) := by omega
              obtain ⟨b, off, rfl, hcl⟩ := HV.out (by omega)
              obtain ⟨x, hx⟩ : ∃ x, L[i]? = some x := ⟨_, List.getElem?_eq_getElem hlt⟩
              obtain ⟨c0, c1, c2, c3⟩ := hcl i x hx
              have hb3w := hb35.trans (hbw.mono hl36)
              have d1 := (hb3w.cell (p := ⟨b, off + i * 3, none⟩) (c0 0 (by omega))).trans c1
              have d2 := (hb3w.cell (p := ⟨b, off + i * 3 + 1, none⟩) (c0 0 (by omega))).trans c2
              have d3 := (hb3w.cell (p := ⟨b, off + i * 3 + 2, none⟩) (c0 0 (by omega))).trans c3
              clear c0 c1 c2 c3 hcl hb3w
              have hxl := List.mem_of_getElem? hx
              have e6 := HE.out x hxl
              have hx12 := hL12 x hxl
              have hP := Tryz.lpixel k M (by omega) (by omega) (val3 x) (val3_sz e6 (hmo hx12 (by decide)))
              rw [← val3_tx e6] at hP
              have hpx : pxs k M L i = pixV (areaB k) M (val3 x) := by unfold pxs; rw [List.getD_eq_getElem?_getD, hx]; rfl
              have hple := pixV_le (areaB k) M (val3 x)
              generalize pixV (areaB k) M (val3 x) = p at hP hpx hple
              obtain ⟨pc, pr⟩ := p
              simp only at hple
              obtain ⟨s1, s2, s3⟩ := hx12
              obtain ⟨E, hE⟩ : ∃ E, E = (wr.alloc (Obj.cells #[Value.string ⟨x.1.toArray⟩, Value.string ⟨x.2.1.toArray⟩, Value.string ⟨x.2.2.toArray⟩] 26)) := ⟨_, rfl⟩
              have hbE : Below W5.heap.size W5 E.drew := by rw [hE]; exact (hbw.alloc hbw.size _).grown (gr_drew (gr_self _ (r := none))) (by have := hbw.size; simp; omega) (fun k hk => by cases hk)
              have gE : wr.grownBy E.drew none := by rw [hE]; exact gr_drew (World.grownBy_alloc wr _ none)
              have f0 : E.drew.cell? ⟨wr.heap.size, 0, none⟩ = some (.string ⟨x.1.toArray⟩) := by rw [hE]; simp
              have f1 : E.drew.cell? ⟨wr.heap.size, 1, none⟩ = some (.string ⟨x.2.1.toArray⟩) := by rw [hE]; simp
              have f2 : E.drew.cell? ⟨wr.heap.size, 2, none⟩ = some (.string ⟨x.2.2.toArray⟩) := by rw [hE]; simp
              have f3 := (hbE.cell (p := ⟨W.heap.size, 0, none⟩) hl5).trans q50
              have f4 := (hbE.cell (p := ⟨W.heap.size, 1, none⟩) hl5).trans q51
              have hcE := Tryz.cntM_kept hcnt gE
              have hbWE := hb05.trans (hbE.mono hb05.size)
              have hPx := hP.2 (fun _ _ => False) E.drew [.agg #[.int .i64 k, .int .i64 M], .agg #[.string ⟨x.1.toArray⟩, .string ⟨x.2.1.toArray⟩, .string ⟨x.2.2.toArray⟩]] (fun _ _ h => h.elim) (Tryz.hL W _ hL hbWE)
                (Reps.cons (rep_netv _ _ _ _) (Reps.cons (Rep.agg (svD x) [.string ⟨x.1.toArray⟩, .string ⟨x.2.1.toArray⟩, .string ⟨x.2.2.toArray⟩] rfl (by simp [svD, D.one]) (fun i d v hd hv => match i with
                  | 0 => by cases hd; cases hv; exact .str _ (by unfold maxLen; omega)
                  | 1 => by cases hd; cases hv; exact .str _ (by unfold maxLen; omega)
                  | 2 => by cases hd; cases hv; exact .str _ (by unfold maxLen; omega)
                  | i + 3 => by simp [svD] at hd)) .nil))
              clear hP hbWE q60 q61
              have HW : Hid (wr.heap.size < E.drew.heap.size ∧ W.heap.size < E.drew.heap.size ∧ W5.heap.size ≤ wr.heap.size ∧ Below W5.heap.size W5 E.drew ∧ Tryz.cntM E.drew W5.heap.size i (cntP (pxs k M L) i)) := ⟨by rw [hE]; simp, by have := hbE.size; omega, hbw.size, hbE, hcE⟩
              have hcR : inR .i64 pc := by rw [inR_i64]; omega
              have hrR : inR .i64 pr := by rw [inR_i64]; omega
              have hcl := cntP_le (pxs k M L) i pc pr
              have hvR : inR .i64 (cntP (pxs k M L) i pc pr + 1) := by rw [inR_i64]; omega
              have hwp : IntKind.i64.wrap (cntP (pxs k M L) i pc pr + 1) = cntP (pxs k M L) i pc pr + 1 := by rw [IntKind.wrap_i64]; omega
              have HW2 : Hid (some W.heap.size ≠ some W5.heap.size ∧ some wr.heap.size ≠ some W5.heap.size) := ⟨by simp; omega, by have := Tryz.cntM_lt hcnt; simp; omega⟩
              clear hcE hbE gE hcnt
              go_wp2_with fail
              rw [← hE]
              clear hE
              go_region_held3 (fun w' => w'.cell? ⟨W.heap.size, 0, none⟩ = some (.int .i64 k) ∧ w'.cell? ⟨W.heap.size, 1, none⟩ = some (.int .i64 M) ∧ w'.cell? ⟨wr.heap.size, 0, none⟩ = some (.string ⟨x.1.toArray⟩) ∧ w'.cell? ⟨wr.heap.size, 1, none⟩ = some (.string ⟨x.2.1.toArray⟩) ∧ w'.cell? ⟨wr.heap.size, 2, none⟩ = some (.string ⟨x.2.2.toArray⟩)) (go_keep)
                (first | (go_at_call 14; refine Calls.mono hPx ?_; rintro e W9 ⟨v9, rfl, hb9, hr9⟩; obtain rfl : v9 = .agg #[.int .i64 pc, .int .i64 pr] := rep_pxinv hr9; clear hr9; have g0 := (hb9.cell (p := ⟨W.heap.size, 0, none⟩) HW.out.2.1).trans f3; have g1 := (hb9.cell (p := ⟨W.heap.size, 1, none⟩) HW.out.2.1).trans f4; have g2 := (hb9.cell (p := ⟨wr.heap.size, 0, none⟩) HW.out.1).trans f0; have g3 := (hb9.cell (p := ⟨wr.heap.size, 1, none⟩) HW.out.1).trans f1; have g4 := (hb9.cell (p := ⟨wr.heap.size, 2, none⟩) HW.out.1).trans f2; have hc5 := Tryz.cntM_kept HW.out.2.2.2.2 (gr_below hb9); obtain ⟨v0', st, W6, W7, hme, hes, hc7, hg7, hg6, hlk6⟩ := Tryz.cntM_store (v := cntP (pxs k M L) i pc pr + 1) hc5 (by unfold maxLen; omega) hcR hrR hvR; have hlk := Tryz.cntM_look hc5 hcR hrR; clear hc5; have k0 := hg6.cell g0 HW2.out.1; have k1 := hg6.cell g1 HW2.out.1; have k2 := hg6.cell g2 HW2.out.2; have k3 := hg6.cell g3 HW2.out.2; have k4 := hg6.cell g4 HW2.out.2; have l0 := hg7.cell g0 HW2.out.1; have l1 := hg7.cell g1 HW2.out.1; have l2 := hg7.cell g2 HW2.out.2; have l3 := hg7.cell g3 HW2.out.2; have l4 := hg7.cell g4 HW2.out.2))
              all_goals
                have hbW7 : Below W5.heap.size W5 W7 := (HW.out.2.2.2.1.trans (hb9.mono HW.out.2.2.2.1.size)).grown hg7 (by have := HW.out.2.2.2.1.size; have := hb9.size; omega) (fun k hk => by cases hk; exact Nat.le_refl _)
                have hc8 := Tryz.cntM_congr hc7 (g := cntP (pxs k M L) (i + 1)) (fun c' r' => by rw [cntP_succ, hpx])
                clear hc7
                go_wp2
                go_roundg (L.length - (i + 1))
                case measure => omega
                case rel => exact ⟨i + 1, by go_num, by omega, by omega, hc8, hbW7⟩
            · have hin : i = L.length := by omega
              subst hin
              obtain ⟨wa, hwa⟩ : ∃ wa, wa = wr := ⟨wr, rfl⟩
              subst hwa
              have hwl : W5.heap.size < wa.heap.size := Tryz.cntM_lt hcnt
              generalize hf : cntP (pxs k M L) L.length = f at *
              have hbWa := hb05.trans (hbw.mono hb05.size)
              have hb4a := hb5.trans (hbw.mono hb5.size)
              have hla : W.heap.size < wa.heap.size := Nat.lt_of_lt_of_le hl5 hbw.size
              have q71 := (hbw.cell (p := ⟨W.heap.size, 1, none⟩) hl5).trans q51
              clear hbw q50 q51 hf
              go_wp2_with fail
              go_loopg [95] (2 * M + 1) (fun gg s95 wr => ∃ i : Nat, s95 = .int .i64 i ∧ i ≤ 2 * M + 1 ∧ 2 * M + 1 ≤ gg + i ∧ Below wa.heap.size wa wr)
              case atStart => exact ⟨0, rfl, Nat.zero_le _, by omega, Below.refl _ _⟩
              case round =>
                obtain ⟨i, rfl, hi, hgg, hbi⟩ := hrel
                by_cases hil : i < 2 * M + 1
                · have j0 : (0 : Int) ≤ (i : Int) := Int.natCast_nonneg _
                  have j1 : (i : Int) < 2 * (M : Int) + 1 := by omega
                  have hpi : (picB f M (2 * M + 1))[i]? = some (rowB f M ((M : Int) - i) (2 * M + 1)) := by
                    unfold picB
                    rw [List.getElem?_map, List.getElem?_range hil]; rfl
                  obtain ⟨g1, g2⟩ := HCT.out i _ hpi
                  have g3 : bT < W4.heap.size := g1.elim (fun h => Nat.lt_of_lt_of_le h hb4.size) (fun h => h.2)
                  have hb4i := hb4a.trans (hbi.mono (Nat.le_trans hl46 (Nat.le_of_lt (Nat.lt_of_le_of_lt (Nat.le_refl _) hwl))))
                  have d1 := (hb4i.cell (p := ⟨bT, oT + i, none⟩) g3).trans g2
                  have hrl := rowB_len f M ((M : Int) - i) (2 * M + 1)
                  have hrb : ∀ j, j < 2 * M + 1 → (rowB f M ((M : Int) - i) (2 * M + 1))[j]? = some (mrkB (f ((j : Int) - M) ((M : Int) - i)) ((j : Int) - M) ((M : Int) - i) M) := fun j hj => by
                    unfold rowB
                    rw [List.getElem?_map, List.getElem?_range hj]; rfl
                  generalize rowB f M ((M : Int) - i) (2 * M + 1) = line at *
                  clear g1 g2 hpi hb4i
                  obtain ⟨wb, hwb⟩ : ∃ wb, wb = wr := ⟨wr, rfl⟩
                  subst hwb
                  have hci := Tryz.cntM_kept hcnt (gr_below hbi)
                  have q81 := (hbi.cell (p := ⟨W.heap.size, 1, none⟩) hla).trans q71
                  have hlb : W.heap.size < wb.heap.size := Nat.lt_of_lt_of_le hla hbi.size
                  have hsz : (ByteArray.mk line.toArray).size = 2 * M + 1 := by rw [← hrl]; simp [ByteArray.size]
                  go_wp2_with fail
                  go_loopg [109] (2 * M + 1) (fun g2 s109 wr => ∃ j : Nat, s109 = .int .i64 j ∧ j ≤ 2 * M + 1 ∧ 2 * M + 1 ≤ g2 + j ∧ Below wb.heap.size wb wr)
                  case atStart => exact ⟨0, rfl, Nat.zero_le _, by omega, Below.refl _ _⟩
                  case round =>
                    obtain ⟨j, rfl, hj, hg2, hbj⟩ := hrel
                    by_cases hjl : j < 2 * M + 1
                    · have k0 : (0 : Int) ≤ (j : Int) := Int.natCast_nonneg _
                      have k1 : (j : Int) < 2 * (M : Int) + 1 := by omega
                      have q91 := (hbj.cell (p := ⟨W.heap.size, 1, none⟩) hlb).trans q81
                      have hix := fun w => run_strix Tryz.underlying9 w line j _ (hrb j hjl)
                      rw [mrkB_nat] at hix
                      obtain ⟨E, hE⟩ : ∃ E, E = (wr.alloc (Obj.cells #[Value.int .i64 ((j : Int) - M), Value.int .i64 ((M : Int) - i)] 30)) := ⟨_, rfl⟩
                      have hbE : Below wb.heap.size wb E.drew := by rw [hE]; exact (hbj.alloc hbj.size _).grown (gr_drew (gr_self _ (r := none))) (by have := hbj.size; simp; omega) (fun k hk => by cases hk)
                      have f0 : E.drew.cell? ⟨wr.heap.size, 0, none⟩ = some (.int .i64 ((j : Int) - M)) := by rw [hE]; simp
                      have f1 : E.drew.cell? ⟨wr.heap.size, 1, none⟩ = some (.int .i64 ((M : Int) - i)) := by rw [hE]; simp
                      have f3 := (hbE.cell (p := ⟨W.heap.size, 1, none⟩) hlb).trans q81
                      have hcE := Tryz.cntM_kept hci (gr_below hbE)
                      have hlk := Tryz.cntM_look hcE (c := (j : Int) - M) (r := (M : Int) - i) (by rw [inR_i64]; omega) (by rw [inR_i64]; omega)
                      have hff := HF.out ((j : Int) - M) ((M : Int) - i)
                      have cM := Tryz.lmark (f ((j : Int) - M) ((M : Int) - i)) ((j : Int) - M) ((M : Int) - i) M hff (by omega) (by omega) (by omega)
                      have hbWE := hbWa.trans ((hbi.trans (hbE.mono hbi.size)).mono hbWa.size)
                      have hMk := cM.2 (fun _ _ => False) E.drew [.int .i64 (f ((j : Int) - M) ((M : Int) - i)), .agg #[.int .i64 ((j : Int) - M), .int .i64 ((M : Int) - i)], .int .i64 M] (fun _ _ h => h.elim) (Tryz.hL W _ hL hbWE)
                        (Reps.cons (.int _ _) (Reps.cons (rep_netv _ _ _ _) (Reps.cons (.int _ _) .nil)))
                      have HW : Hid (wr.heap.size < E.drew.heap.size ∧ W.heap.size < E.drew.heap.size ∧ Below wb.heap.size wb E.drew) := ⟨by rw [hE]; simp, by have := hbE.size; omega, hbE⟩
                      clear cM hbWE hcE hbE
                      go_wp2_with fail
                      rw [← hE]
                      clear hE
                      generalize mrk (f ((j : Int) - M) ((M : Int) - i)) ((j : Int) - M) ((M : Int) - i) M = mm at *
                      go_region_held3 (fun w' => w'.cell? ⟨W.heap.size, 1, none⟩ = some (.int .i64 M) ∧ w'.cell? ⟨wr.heap.size, 0, none⟩ = some (.int .i64 ((j : Int) - M)) ∧ w'.cell? ⟨wr.heap.size, 1, none⟩ = some (.int .i64 ((M : Int) - i))) (go_keep)
                        (first | (go_at_call 32; refine Calls.mono hMk ?_; rintro e W9 ⟨v9, rfl, hb9, hr9⟩; obtain rfl : v9 = .int .u8 mm := (by cases hr9; rfl); clear hr9; have l0 := (hb9.cell (p := ⟨W.heap.size, 1, none⟩) HW.out.2.1).trans f3; have l1 := (hb9.cell (p := ⟨wr.heap.size, 0, none⟩) HW.out.1).trans f0; have l2 := (hb9.cell (p := ⟨wr.heap.size, 1, none⟩) HW.out.1).trans f1))
                      all_goals
                        have hb9w : Below wb.heap.size wb W9 := HW.out.2.2.trans (hb9.mono HW.out.2.2.size)
                        go_wp2
                        go_roundg (2 * M + 1 - (j + 1))
                        case measure => omega
                        case rel => exact ⟨j + 1, by go_num, by omega, by omega, hb9w⟩
                    · go_wp2
                      go_roundg (2 * M + 1 - (i + 1))
                      case measure => omega
                      case rel => exact ⟨i + 1, by go_num, by omega, by omega, hbi.trans (hbj.mono hbi.size)⟩
                · have hie : i = 2 * M + 1 := by omega
                  subst hie
                  go_wp2
                  go_ret
                  exact ⟨_, rfl, hbWa.trans (hbi.mono hbWa.size), .bool _⟩
        · have hpe : picE k R L = errN (some (k, R)) L := by rw [HPW.out, if_neg (fun h => r30 h.2)]
          have hpR2 := hpR (by rw [hpe]; exact w0)
          rw [hpe] at hpR2
          generalize errN (some (k, R)) L = ew at *
          go_enter Tryz.func7, Tryz.ntmps7
          go_wp2_with (go_at_call 10; refine Calls.mono hK1 ?_; rintro e W1 ⟨v, rfl, hb1, hr1⟩; obtain rfl : v = .bool true := (by cases hr1; rfl); clear hr1; have hb01 := hbB.trans (hb1.mono hbB.size); have q10 := (hb1.cell (p := ⟨W.heap.size, 0, none⟩) hsz1).trans hq0; have q11 := (hb1.cell (p := ⟨W.heap.size, 1, none⟩) hsz1).trans hq1)
          refine Calls.mono (HB.out _ hb01) ?_
          rintro e W2 ⟨v, rfl, hb2, hr2⟩
          obtain rfl : v = .bool true := (by cases hr2; rfl)
          clear hr2
          have hb02 := hb01.trans (hb2.mono hb01.size)
          have hl1 : W.heap.size < W1.heap.size := Nat.lt_of_lt_of_le hsz1 hb1.size
          have q20 := (hb2.cell (p := ⟨W.heap.size, 0, none⟩) hl1).trans q10
          have q21 := (hb2.cell (p := ⟨W.heap.size, 1, none⟩) hl1).trans q11
          have hl2 : W.heap.size < W2.heap.size := Nat.lt_of_lt_of_le hl1 hb2.size
          clear q10 q11 hb1 hb2 hl1
          go_wp2_with fail
          refine Calls.mono (HRp.out _ hb02) ?_
          rintro e W3 ⟨vL, rfl, hb3, hr3⟩
          have hb03 := hb02.trans (hb3.mono hb02.size)
          have hr3' := HLL.out _ _ _ hb03 hr3
          clear hr3
          have q30 := (hb3.cell (p := ⟨W.heap.size, 0, none⟩) hl2).trans q20
          have q31 := (hb3.cell (p := ⟨W.heap.size, 1, none⟩) hl2).trans q21
          have hl3 : W.heap.size < W3.heap.size := Nat.lt_of_lt_of_le hl2 hb3.size
          clear q20 q21 hb3 hl2
          obtain ⟨aL, cL, rfl, hvec⟩ := rep_vecs hr3'
          have HV : Hid _ := hvec
          have HL3 : Hid (Rep (fun b _ => b < W3.heap.size) W3 (lS L) (.slice aL L.length cL)) := hr3'
          clear hvec hr3'
          have hPi := HPi.out W3 (.slice aL L.length cL) hb03 HL3.out
          rw [hpR2] at hPi
          go_wp2_with (go_at_call 31; refine Calls.mono hPi ?_; rintro e W4 ⟨vT, rfl, hb4, hr4⟩; obtain ⟨vt, rfl, hrt⟩ := rep_tup2 hr4; clear hr4; have hb04 := hb03.trans (hb4.mono hb03.size); have q40 := (hb4.cell (p := ⟨W.heap.size, 0, none⟩) hl3).trans q30; have q41 := (hb4.cell (p := ⟨W.heap.size, 1, none⟩) hl3).trans q31; have hl4 : W.heap.size < W4.heap.size := Nat.lt_of_lt_of_le hl3 hb4.size; have HT : Hid _ := hrt; clear hrt hPi)
          have hFi := HFi.out W4 (.slice aL L.length cL) hb04 (HL3.out.mono (fun b j z => Nat.lt_of_lt_of_le z hb4.size) (fun b o z => hb4.cell (p := ⟨b, o, none⟩) z)) q40 q41 hl4
          refine Calls.mono hFi ?_
          rintro e W5 ⟨v, rfl, hb5, hr5⟩
          obtain rfl : v = .int .i64 ew := (by cases hr5; rfl)
          clear hr5 hFi
          have hb05 := hb04.trans (hb5.mono hb04.size)
          have q50 := (hb5.cell (p := ⟨W.heap.size, 0, none⟩) hl4).trans q40
          have q51 := (hb5.cell (p := ⟨W.heap.size, 1, none⟩) hl4).trans q41
          have hl5 : W.heap.size < W5.heap.size := Nat.lt_of_lt_of_le hl4 hb5.size
          clear q30 q31 q40 q41 hl3 hl4
          obtain ⟨aT, cT, rfl⟩ := rep_sl0' HT.out
          have hew : (ew == 0) = false := by simpa using w0
          go_wp2
          all_goals
            go_ret
            exact ⟨_, rfl, hb05, .bool _⟩
end Go.Proofs
