/-
  STEREONET: Picture. Own work.
-/
import Derived.Test.YtidmnjnhccoblaaGreatDoorSg
import Derived.Test.YtidmnjnhccoblaaGreatDoorEi
import Derived.Test.YtidmnjnhccoblaaGreatDoorEg
import Derived.Deep.RegionHeld3
import Derived.Deep.LoopGhost
import Derived.Shelf.RegionOpenPlain
set_option linter.unusedVariables false
set_option linter.unusedSimpArgs false
namespace Go.Ne
/-- how many of the first k pixels are at a place -/
def cntP (px : Nat → Int × Int) : Nat → Int → Int → Int
  | 0, _, _ => 0
  | k + 1, c, r => if c = (px k).1 ∧ r = (px k).2 then cntP px k (px k).1 (px k).2 + 1 else cntP px k c r
theorem cntP_succ (px : Nat → Int × Int) (k : Nat) (c r : Int) : cntP px (k + 1) c r = if c = (px k).1 ∧ r = (px k).2 then cntP px k (px k).1 (px k).2 + 1 else cntP px k c r := rfl
theorem sq900 {x : Int} (h1 : -30 ≤ x) (h2 : x ≤ 30) : 0 ≤ x * x ∧ x * x ≤ 900 := by
  have h3 := Int.mul_nonneg (show 0 ≤ 30 - x by omega) (show 0 ≤ 30 + x by omega)
  have e : (30 - x) * (30 + x) = 900 - x * x := by grind
  refine ⟨?_, by omega⟩
  rcases Int.le_total 0 x with h | h
  · exact Int.mul_nonneg h h
  · have := Int.mul_nonneg (show 0 ≤ -x by omega) (show 0 ≤ -x by omega)
    have e2 : -x * -x = x * x := by grind
    omega
theorem cntP_le (px : Nat → Int × Int) : ∀ k c r, 0 ≤ cntP px k c r ∧ cntP px k c r ≤ k
  | 0, c, r => by simp [cntP]
  | k + 1, c, r => by
    have h1 := cntP_le px k c r
    have h2 := cntP_le px k (px k).1 (px k).2
    simp only [cntP]
    split <;> omega
/-- the byte of a pixel -/
def mrk (k c r R : Int) : Int := if 9 < k then 42 else if 0 < k then 48 + k else if c * c + r * r ≤ R * R then 46 else 32
theorem mrk_le (k c r R : Int) : 32 ≤ mrk k c r R ∧ mrk k c r R ≤ 57 := by
  unfold mrk
  by_cases h1 : 9 < k
  · rw [if_pos h1]; omega
  · rw [if_neg h1]
    by_cases h2 : 0 < k
    · rw [if_pos h2]; omega
    · rw [if_neg h2]; split <;> omega
def mrkB (k c r R : Int) : UInt8 := UInt8.ofNat (mrk k c r R).toNat
theorem mrkB_nat (k c r R : Int) : ((mrkB k c r R).toNat : Int) = mrk k c r R := by
  have := mrk_le k c r R
  unfold mrkB
  rw [UInt8.toNat_ofNat']
  omega
def rowB (f : Int → Int → Int) (R : Nat) (r : Int) (j : Nat) : List UInt8 := (List.range j).map fun (i : Nat) => mrkB (f ((i : Int) - R) r) ((i : Int) - R) r R
theorem rowB_len (f : Int → Int → Int) (R : Nat) (r : Int) (j : Nat) : (rowB f R r j).length = j := by simp [rowB]
theorem rowB_succ (f : Int → Int → Int) (R : Nat) (r : Int) (j : Nat) : rowB f R r (j + 1) = rowB f R r j ++ [mrkB (f ((j : Int) - R) r) ((j : Int) - R) r R] := by simp [rowB, List.range_succ]
def picB (f : Int → Int → Int) (R : Nat) (i : Nat) : List (List UInt8) := (List.range i).map fun (q : Nat) => rowB f R ((R : Int) - q) (2 * R + 1)
theorem picB_len (f : Int → Int → Int) (R : Nat) (i : Nat) : (picB f R i).length = i := by simp [picB]
theorem picB_succ (f : Int → Int → Int) (R : Nat) (i : Nat) : picB f R (i + 1) = picB f R i ++ [rowB f R ((R : Int) - i) (2 * R + 1)] := by simp [picB, List.range_succ]
end Go.Ne
namespace Go.Pi
open Go Go.RowKit
theorem addr_add (b j : Nat) : (⟨b, 0, none⟩ : Addr).add j = ⟨b, j, none⟩ := by unfold Addr.add; split <;> simp_all
def bytV (l : List UInt8) : List Value := l.map fun b => .int .u8 (b.toNat : Int)
theorem bytV_snoc (l : List UInt8) (b : UInt8) : bytV (l ++ [b]) = bytV l ++ [.int .u8 (b.toNat : Int)] := by simp [bytV]
/-- an own row of strings, read as data -/
def strV (l : List (List UInt8)) : List Value := l.map fun s => .string ⟨s.toArray⟩
theorem rep_errT (S : Nat → Nat → Prop) (w : World) (e : Int) : Rep S w (.tup [.sl 0 [], .int .i64 e]) (.tuple #[.slice none 0 0, .int .i64 e]) := by
  refine Rep.tup [.sl 0 [], .int .i64 e] [.slice none 0 0, .int .i64 e] rfl fun i d v hd hv => ?_
  match i with
  | 0 => cases hd; cases hv; exact .sl0 _ _ (Nat.zero_le _)
  | 1 => cases hd; cases hv; exact .int _ _
  | i + 2 => simp at hd
theorem strV_snoc (l : List (List UInt8)) (b : List UInt8) : strV (l ++ [b]) = strV l ++ [.string ⟨b.toArray⟩] := by simp [strV]
theorem rep_ownS' {W : World} {S : Nat → Nat → Prop} {base e : Nat} {v : Value} {l : List (List UInt8)} (h : W.ownsRow base e 1 v l.length (strV l)) (hl : ∀ y ∈ l, y.length ≤ maxLen) (hS : ∀ b j, base ≤ b → b < W.heap.size → S b j) :
    Rep S W (.sl l.length (l.map .str)) v := by
  rcases h.2 with ⟨rfl, h0⟩ | ⟨b, cap, cur, rfl, hbg, hg, hn, hc, _, _⟩
  · obtain rfl : l = [] := List.length_eq_zero_iff.1 h0
    exact .sl0 none 0 (Nat.zero_le _)
  · refine .sl l.length (l.map .str) b 0 cap (strV l) (by simp [strV]) (fun d hd => by obtain ⟨x, _, rfl⟩ := List.mem_map.1 hd; rfl) hn hc (fun i u hu => ⟨hS b _ hbg (Array.getElem?_eq_some_iff.1 hg).1, ?_⟩) (fun i d v hd hv => ?_)
    · have hlt := (List.getElem?_eq_some_iff.1 hu).1
      simp only [strV, List.length_map] at hlt
      rw [Nat.zero_add, h.cellAt i (by omega)]; exact hu
    · rw [List.getElem?_map] at hd
      simp only [strV] at hv
      rw [List.getElem?_map] at hv
      obtain ⟨x, hx, rfl⟩ := Option.map_eq_some_iff.1 hd
      rw [hx] at hv
      cases hv
      exact .str _ (hl x (List.mem_of_getElem? hx))
end Go.Pi
namespace Go.Proofs
open Go Go.Pi Go.RowKit Go.Shelf Go.Ar Go.Ne

theorem Tryz.cntM_kept {w w' : World} {b n : Nat} {f : Int → Int → Int} (h : Tryz.cntM w b n f) (hg : w.grownBy w' none) : Tryz.cntM w' b n f := by
  obtain ⟨D, h1, h2, h3⟩ := h
  exact ⟨D, h1.kept hg (by simp), h2, h3⟩
theorem Tryz.cntM_lt {w : World} {b n : Nat} {f : Int → Int → Int} (h : Tryz.cntM w b n f) : b < w.heap.size := by
  obtain ⟨D, h1, _⟩ := h
  exact h1.lt
theorem Tryz.cntM_congr {w : World} {b n : Nat} {f g : Int → Int → Int} (h : Tryz.cntM w b n f) (e : ∀ c r, f c r = g c r) : Tryz.cntM w b n g := by
  have : f = g := funext fun c => funext fun r => e c r
  rwa [← this]
theorem pixV_le (area : Bool) (R : Nat) (v : V3) : (-(R : Int) ≤ (pixV area R v).1 ∧ (pixV area R v).1 ≤ R) ∧ (-(R : Int) ≤ (pixV area R v).2 ∧ (pixV area R v).2 ≤ R) := ⟨pix_ge, pix_ge⟩
noncomputable def picE (k R : Int) (l : List S3) : Int :=
  if (if numE l ≠ 0 then numE l else netE k R) ≠ 0 then (if numE l ≠ 0 then numE l else netE k R) else if 30 < R ∨ 400 < l.length then 4 else zerE l
noncomputable def pxs (k : Int) (R : Nat) (l : List S3) (i : Nat) : Int × Int := pixV (areaB k) R (val3 (l.getD i ([], [], [])))
noncomputable def picR (k R : Int) (l : List S3) : D :=
  if picE k R l = 0 then .tup [.sl (2 * R.toNat + 1) ((picB (cntP (pxs k R.toNat l) l.length) R.toNat (2 * R.toNat + 1)).map .str), .int .i64 0] else .tup [.sl 0 [], .int .i64 (picE k R l)]
theorem rep_vecs {S : Nat → Nat → Prop} {w : World} {l : List S3} {v : Value} (h : Rep S w (lS l) v) : ∃ ad cap, v = .slice ad l.length cap ∧ (0 < l.length → ∃ b off, ad = some ⟨b, off, none⟩ ∧
    ∀ i x, l[i]? = some x → (∀ j, j < 3 → S b (off + i * 3 + j)) ∧ w.cell? ⟨b, off + i * 3, none⟩ = some (.string ⟨x.1.toArray⟩) ∧ w.cell? ⟨b, off + i * 3 + 1, none⟩ = some (.string ⟨x.2.1.toArray⟩) ∧ w.cell? ⟨b, off + i * 3 + 2, none⟩ = some (.string ⟨x.2.2.toArray⟩)) := by
  generalize hd : lS l = d at h
  cases h with
  | bool | int | str | agg | tup | pt | clo | errN | errS | nilP => cases hd
  | sl0 a cap hc =>
    injection hd with h1 h2
    exact ⟨a, cap, by rw [h1], fun h => by omega⟩
  | slN =>
    injection hd with h1 h2
    exact ⟨none, 0, by rw [h1], fun h => by omega⟩
  | sl n ds b off cap vs hl h1 hn hc hr h =>
    injection hd with e1 e2
    subst e1; subst e2
    refine ⟨_, cap, rfl, fun _ => ⟨b, off, rfl, fun i x hx => ?_⟩⟩
    obtain ⟨r, hr2⟩ := rows_at svD_len hx
    have hget : ∀ j, j < 3 → (svs l)[i * 3 + j]? = (svD x)[j]? := fun j hj => by
      rw [← List.getElem?_drop, hr2, List.getElem?_append_left (by rw [svD_len]; exact hj)]
    have hil : i < l.length := (List.getElem?_eq_some_iff.1 hx).1
    have hvl : vs.length = l.length * 3 := by rw [← hl, svs_len]
    have hv : ∀ j, j < 3 → ∃ u, vs[i * 3 + j]? = some u := fun j hj => ⟨_, List.getElem?_eq_getElem (by omega)⟩
    have key : ∀ (j : Nat) (s : List UInt8), j < 3 → (svD x)[j]? = some (.str s) → S b (off + i * 3 + j) ∧ w.cell? ⟨b, off + i * 3 + j, none⟩ = some (.string ⟨s.toArray⟩) := fun j s hj hs => by
      obtain ⟨u, hu⟩ := hv j hj
      have h2 := h (i * 3 + j) _ u ((hget j hj).trans hs) hu
      have h3 := h2.str_inv.1
      subst h3
      have h4 := hr (i * 3 + j) _ hu
      rw [← Nat.add_assoc] at h4
      exact h4
    exact ⟨fun j hj => by
      match j, hj with
      | 0, _ => exact (key 0 _ (by omega) rfl).1
      | 1, _ => exact (key 1 _ (by omega) rfl).1
      | 2, _ => exact (key 2 _ (by omega) rfl).1, (key 0 _ (by omega) rfl).2, (key 1 _ (by omega) rfl).2, (key 2 _ (by omega) rfl).2⟩
end Go.Proofs

/-
  STEREONET: Picture, in the plain walk. Own work.
-/
namespace Go.Proofs
open Go Go.Pi Go.RowKit Go.Shelf Go.Ar Go.Ne

theorem rep_netv (S : Nat → Nat → Prop) (w : World) (k R : Int) : Rep S w (netD k R) (.agg #[.int .i64 k, .int .i64 R]) := by
  refine Rep.agg [.int .i64 k, .int .i64 R] [.int .i64 k, .int .i64 R] rfl (by simp [D.one]) fun i d v hd hv => ?_
  match i with
  | 0 => cases hd; cases hv; exact .int _ _
  | 1 => cases hd; cases hv; exact .int _ _
  | i + 2 => simp at hd
theorem rep_netinv {S : Nat → Nat → Prop} {w : World} {k R : Int} {v : Value} (h : Rep S w (netD k R) v) : v = .agg #[.int .i64 k, .int .i64 R] := by
  cases h with
  | agg ds vs hl h1 h =>
    match vs, hl with
    | [a, b], _ =>
      obtain rfl := (h 0 _ a rfl rfl).int_inv
      obtain rfl := (h 1 _ b rfl rfl).int_inv
      rfl
theorem rep_pxinv {S : Nat → Nat → Prop} {w : World} {c r : Int} {v : Value} (h : Rep S w (pxD (c, r)) v) : v = .agg #[.int .i64 c, .int .i64 r] := rep_netinv h
set_option maxRecDepth 100000 in
set_option maxHeartbeats 8000000 in
theorem Tryz.spicture (k R : Int) (l : List S3) (hl : l.length ≤ 900) (h : ∀ v ∈ l, szS 200 v) : Con Tryz.prog Tryz.L 31 [netD k R, lS l] (picR k R l) := by
  have mixed : Tryz.prog.follows .mixedOrders = true := by kernel_rfl
  have t0 := Tryz.underlying46; have a0 := Tryz.isAgg46; have z0 := Tryz.sizeOf46; have v0 := Tryz.zeroValue46; have u0 := run_underlying Tryz.underlying46
  have t1 := Tryz.underlying26; have a1 := Tryz.isAgg26; have z1 := Tryz.sizeOf26; have v1 := Tryz.zeroValue26; have u1 := run_underlying Tryz.underlying26
  have t2 := Tryz.underlying23; have a2 := Tryz.isAgg23; have z2 := Tryz.sizeOf23; have v2 := Tryz.zeroValue23; have u2 := run_underlying Tryz.underlying23
  have t3 := Tryz.underlying4; have a3 := Tryz.isAgg4; have z3 := Tryz.sizeOf4; have v3 := Tryz.zeroValue4; have u3 := run_underlying Tryz.underlying4
  have t4 := Tryz.underlying3; have a4 := Tryz.isAgg3; have z4 := Tryz.sizeOf3; have v4 := Tryz.zeroValue3; have u4 := run_underlying Tryz.underlying3
  have t5 := Tryz.underlying31; have a5 := Tryz.isAgg31; have z5 := Tryz.sizeOf31; have v5 := Tryz.zeroValue31; have u5 := run_underlying Tryz.underlying31
  have t6 := Tryz.underlying30; have a6 := Tryz.isAgg30; have z6 := Tryz.sizeOf30; have v6 := Tryz.zeroValue30; have u6 := run_underlying Tryz.underlying30
  have t7 := Tryz.underlying64; have a7 := Tryz.isAgg64; have z7 := Tryz.sizeOf64; have v7 := Tryz.zeroValue64; have u7 := run_underlying Tryz.underlying64
  have t8 := Tryz.underlying9; have a8 := Tryz.isAgg9; have z8 := Tryz.sizeOf9; have v8 := Tryz.zeroValue9; have u8 := run_underlying Tryz.underlying9
  have t9 := Tryz.underlying97; have a9 := Tryz.isAgg97; have z9 := Tryz.sizeOf97; have v9 := Tryz.zeroValue97; have u9 := run_underlying Tryz.underlying97
  have t10 := Tryz.underlying5; have a10 := Tryz.isAgg5; have z10 := Tryz.sizeOf5; have v10 := Tryz.zeroValue5; have u10 := run_underlying Tryz.underlying5
  have t11 := Tryz.underlying67
  have t12 := Tryz.underlying24; have a12 := Tryz.isAgg24; have z12 := Tryz.sizeOf24
  have hsz : ∀ v ∈ l, szS 1000000 v := fun v hv => by obtain ⟨a, b, c⟩ := h v hv; exact ⟨by omega, by omega, by omega⟩
  have cO := Tryz.sopen k R l (by omega) hsz
  have cZ := Tryz.szeros l (by omega)
  refine ⟨⟨by kernel_rfl, by unfold picR; split <;> rfl⟩, fun S W vs hS hL hrep => ?_⟩
  obtain ⟨va, r1, rfl, hra, t1'⟩ := hrep.uncons
  obtain ⟨vb, r2, rfl, hrb, t2'⟩ := t1'.uncons
  obtain rfl : r2 = [] := List.length_eq_zero_iff.1 t2'.1.symm
  obtain rfl := rep_netinv hra
  clear t1' t2' hrep hra
  obtain ⟨ad, cap, rfl, hcells⟩ := rep_vecs hrb
  have HR : Hid (Rep S W (lS l) (.slice ad l.length cap)) := hrb
  have HS : Hid (∀ b j, S b j → b < W.heap.size) := hS
  have HC : Hid _ := hcells
  clear hrb hS hcells
  have hO := fun (w : World) (hb : Below W.heap.size W w) => cO.2 S w [.agg #[.int .i64 k, .int .i64 R], .slice ad l.length cap] (fun b j z => Nat.lt_of_lt_of_le (HS.out b j z) hb.size) (Tryz.hL W w hL hb)
    (Reps.cons (rep_netv _ _ _ _) (Reps.cons (HR.out.mono (fun _ _ z => z) (fun b o z => hb.cell (p := ⟨b, o, none⟩) (HS.out b o z))) .nil))
  have hZ := fun (w : World) (hb : Below W.heap.size W w) => cZ.2 S w [.slice ad l.length cap] (fun b j z => Nat.lt_of_lt_of_le (HS.out b j z) hb.size) (Tryz.hL W w hL hb)
    (Reps.cons (HR.out.mono (fun _ _ z => z) (fun b o z => hb.cell (p := ⟨b, o, none⟩) (HS.out b o z))) .nil)
  clear cO cZ
  show Calls _ _ #[.agg #[.int .i64 k, .int .i64 R], .slice ad l.length cap] _ _
  generalize hE : (if numE l ≠ 0 then numE l else netE k R) = E at *
  have hbB : Below W.heap.size W (W.alloc (Obj.cells #[Value.int IntKind.i64 k, Value.int IntKind.i64 R] 23)) := (Below.refl _ W).alloc (Nat.le_refl _) _
  have hO1 := hO _ hbB
  have hq0 : (W.alloc (Obj.cells #[Value.int IntKind.i64 k, Value.int IntKind.i64 R] 23)).cell? ⟨W.heap.size, 0, none⟩ = some (.int .i64 k) := by simp
  have hq1 : (W.alloc (Obj.cells #[Value.int IntKind.i64 k, Value.int IntKind.i64 R] 23)).cell? ⟨W.heap.size, 1, none⟩ = some (.int .i64 R) := by simp
  have hsz1 : W.heap.size < (W.alloc (Obj.cells #[Value.int IntKind.i64 k, Value.int IntKind.i64 R] 23)).heap.size := by simp
  have hib0 : (Tryz.prog.info? 5).map (fun i => (i.zero, i.size, i.bytes)) = some (some (.int .u8 0), 1, 1) := by kernel_rfl
  obtain ⟨ib, hib, hib1⟩ := Option.map_eq_some_iff.1 hib0
  simp only [Prod.mk.injEq] at hib1
  have his0 : (Tryz.prog.info? 9).map (fun i => (i.zero, i.size, i.bytes)) = some (some (.string ⟨#[]⟩), 1, 16) := by kernel_rfl
  obtain ⟨is, his, his1⟩ := Option.map_eq_some_iff.1 his0
  simp only [Prod.mk.injEq] at his1
  clear hib0 his0
  clear hO
  have HZ : Hid _ := hZ
  clear hZ
  by_cases e1 : E = 0
  · have hnet := net_0 (k := k) (R := R)
    have hnum : numE l = 0 := by
      by_cases hx : numE l = 0
      · exact hx
      · rw [if_pos hx] at hE; omega
    rw [if_neg (by omega)] at hE
    obtain ⟨hk, hR1, hR2⟩ := hnet.1 (hE.trans e1)
    subst e1
    have HE : Hid (numE l = 0 ∧ netE k R = 0) := ⟨hnum, hE⟩
    clear hnet hnum hE
    by_cases e2 : 30 < R ∨ 400 < l.length
    · have hpe : picE k R l = 4 := by unfold picE; rw [if_neg (by rw [if_neg (by rw [HE.out.1]; simp)]; rw [HE.out.2]; simp), if_pos e2]
      have HP : Hid (picE k R l = 4) := hpe
      clear hpe
      by_cases i1 : R > 30
      · clear e2
        go_enter Tryz.func31, Tryz.ntmps31
        go_wp2_with (go_at_call 40; refine Calls.mono hO1 ?_; rintro e W1 ⟨v, rfl, hb1, hr1⟩; obtain rfl : v = .int .i64 0 := (by cases hr1; rfl); clear hr1; have q0 := (hb1.cell (p := ⟨W.heap.size, 0, none⟩) hsz1).trans hq0; have q1 := (hb1.cell (p := ⟨W.heap.size, 1, none⟩) hsz1).trans hq1; have hb01 := hbB.trans (hb1.mono hbB.size))
        go_ret2
        refine ⟨.tuple #[.slice none 0 0, .int .i64 4], by simp, hb01, ?_⟩
        unfold picR
        rw [HP.out, if_neg (by decide)]
        exact rep_errT _ _ _
      · have i2 : (l.length : Int) > 400 := by omega
        clear e2
        go_enter Tryz.func31, Tryz.ntmps31
        go_wp2_with (go_at_call 40; refine Calls.mono hO1 ?_; rintro e W1 ⟨v, rfl, hb1, hr1⟩; obtain rfl : v = .int .i64 0 := (by cases hr1; rfl); clear hr1; have q0 := (hb1.cell (p := ⟨W.heap.size, 0, none⟩) hsz1).trans hq0; have q1 := (hb1.cell (p := ⟨W.heap.size, 1, none⟩) hsz1).trans hq1; have hb01 := hbB.trans (hb1.mono hbB.size))
        go_ret2
        refine ⟨.tuple #[.slice none 0 0, .int .i64 4], by simp, hb01, ?_⟩
        unfold picR
        rw [HP.out, if_neg (by decide)]
        exact rep_errT _ _ _
    · have i1 : ¬(R > 30) := by omega
      have i2 : ¬((l.length : Int) > 400) := by omega
      by_cases e3 : zerE l = 0
      · go_enter Tryz.func31, Tryz.ntmps31
        go_wp2_with (go_at_call 40; refine Calls.mono hO1 ?_; rintro e W1 ⟨v, rfl, hb1, hr1⟩; obtain rfl : v = .int .i64 0 := (by cases hr1; rfl); clear hr1; have q0 := (hb1.cell (p := ⟨W.heap.size, 0, none⟩) hsz1).trans hq0; have q1 := (hb1.cell (p := ⟨W.heap.size, 1, none⟩) hsz1).trans hq1; have hb01 := hbB.trans (hb1.mono hbB.size))
        have hZ1 := HZ.out _ hb01
        refine Calls.mono hZ1 ?_
        rintro e W2 ⟨v, rfl, hb2, hr2⟩
        obtain rfl : v = .int .i64 (zerE l) := (by cases hr2; rfl)
        clear hr2 hZ1
        rw [e3]
        have hb02 := hb01.trans (hb2.mono hb01.size)
        have hl1 : W.heap.size < W1.heap.size := Nat.lt_of_lt_of_le hsz1 hb1.size
        have q20 := (hb2.cell (p := ⟨W.heap.size, 0, none⟩) hl1).trans q0
        have q21 := (hb2.cell (p := ⟨W.heap.size, 1, none⟩) hl1).trans q1
        clear q0 q1 hq0 hq1 hb1 hbB hO1 HZ hsz1 hb01
        obtain ⟨W3, hmk, hcnt, hb3⟩ : ∃ W3, (Instr.makeMap 67 none).run Tryz.prog W2 = .ok (.map (some W2.heap.size)) W3 ∧ Tryz.cntM W3 W2.heap.size 0 (fun _ _ => 0) ∧ Below W2.heap.size W2 W3 :=
          ⟨_, rfl, Tryz.cntM_made W2, (Below.refl _ W2).alloc (Nat.le_refl _) _⟩
        have hb23 := Below.refl W2.heap.size W2
        have HC3 : Hid (zerE l = 0) := e3
        have hl2 : W.heap.size < W2.heap.size := Nat.lt_of_lt_of_le hl1 hb2.size
        clear e3 hb2 hl1
        go_wp2
        go_loopg [40] l.length (fun gg s40 wr => ∃ i : Nat, s40 = .int .i64 i ∧ i ≤ l.length ∧ l.length ≤ gg + i ∧ Tryz.cntM wr W2.heap.size i (cntP (pxs k R.toNat l) i) ∧ Below W2.heap.size W2 wr)
        case atStart => exact ⟨0, rfl, Nat.zero_le _, by omega, hcnt, hb3⟩
        case round =>
          clear hcnt hb3 hmk
          obtain ⟨i, rfl, hi, hgg, hcnt, hbw⟩ := hrel
          have q30 := (hbw.cell (p := ⟨W.heap.size, 0, none⟩) hl2).trans q20
          have q31 := (hbw.cell (p := ⟨W.heap.size, 1, none⟩) hl2).trans q21
          by_cases hlt : i < l.length
          · have j0 : (0 : Int) ≤ (i : Int) := Int.natCast_nonneg _
            have j1 : (i : Int) < (l.length : Int) := by omega
            obtain ⟨b, off, rfl, hcl⟩ := HC.out (by omega)
            obtain ⟨x, hx⟩ : ∃ x, l[i]? = some x := ⟨_, List.getElem?_eq_getElem hlt⟩
            obtain ⟨c0, c1, c2, c3⟩ := hcl i x hx
            have hbW := hb02.trans (hbw.mono hb02.size)
            have d1 := (hbW.cell (p := ⟨b, off + i * 3, none⟩) (HS.out _ _ (c0 0 (by omega)))).trans c1
            have d2 := (hbW.cell (p := ⟨b, off + i * 3 + 1, none⟩) (HS.out _ _ (c0 0 (by omega)))).trans c2
            have d3 := (hbW.cell (p := ⟨b, off + i * 3 + 2, none⟩) (HS.out _ _ (c0 0 (by omega)))).trans c3
            clear c0 c1 c2 c3 hcl
            have hxl := List.mem_of_getElem? hx
            have e6 := num_0.1 HE.out.1 x hxl
            have hP := Tryz.spixel k R.toNat (by omega) (by omega) (val3 x) (val3_sz e6 (h x hxl))
            rw [← val3_tx e6, show ((R.toNat : Nat) : Int) = R by omega] at hP
            have hpx : pxs k R.toNat l i = pixV (areaB k) R.toNat (val3 x) := by unfold pxs; rw [List.getD_eq_getElem?_getD, hx]; rfl
            have hple := pixV_le (areaB k) R.toNat (val3 x)
            generalize pixV (areaB k) R.toNat (val3 x) = p at hP hpx hple
            obtain ⟨pc, pr⟩ := p
            simp only at hple
            obtain ⟨s1, s2, s3⟩ := h x hxl
            obtain ⟨E, hE⟩ : ∃ E, E = (wr.alloc (Obj.cells #[Value.string ⟨x.1.toArray⟩, Value.string ⟨x.2.1.toArray⟩, Value.string ⟨x.2.2.toArray⟩] 26)) := ⟨_, rfl⟩
            have hbE : Below W2.heap.size W2 E.drew := by rw [hE]; exact (hbw.alloc hbw.size _).grown (gr_drew (gr_self _ (r := none))) (by have := hbw.size; simp; omega) (fun k hk => by cases hk)
            have gE : wr.grownBy E.drew none := by rw [hE]; exact gr_drew (World.grownBy_alloc wr _ none)
            have f0 : E.drew.cell? ⟨wr.heap.size, 0, none⟩ = some (.string ⟨x.1.toArray⟩) := by rw [hE]; simp
            have f1 : E.drew.cell? ⟨wr.heap.size, 1, none⟩ = some (.string ⟨x.2.1.toArray⟩) := by rw [hE]; simp
            have f2 : E.drew.cell? ⟨wr.heap.size, 2, none⟩ = some (.string ⟨x.2.2.toArray⟩) := by rw [hE]; simp
            have f3 := (hbE.cell (p := ⟨W.heap.size, 0, none⟩) hl2).trans q20
            have f4 := (hbE.cell (p := ⟨W.heap.size, 1, none⟩) hl2).trans q21
            have hcE := Tryz.cntM_kept hcnt gE
            have hbWE := hb02.trans (hbE.mono hb02.size)
            have hPx := hP.2 (fun _ _ => False) E.drew [.agg #[.int .i64 k, .int .i64 R], .agg #[.string ⟨x.1.toArray⟩, .string ⟨x.2.1.toArray⟩, .string ⟨x.2.2.toArray⟩]] (fun _ _ h => h.elim) (Tryz.hL W _ hL hbWE)
              (Reps.cons (rep_netv _ _ _ _) (Reps.cons (Rep.agg (svD x) [.string ⟨x.1.toArray⟩, .string ⟨x.2.1.toArray⟩, .string ⟨x.2.2.toArray⟩] rfl (by simp [svD, D.one]) (fun i d v hd hv => match i with
                | 0 => by cases hd; cases hv; exact .str _ (by unfold maxLen; omega)
                | 1 => by cases hd; cases hv; exact .str _ (by unfold maxLen; omega)
                | 2 => by cases hd; cases hv; exact .str _ (by unfold maxLen; omega)
                | i + 3 => by simp [svD] at hd)) .nil))
            clear hP hbWE hbW q30 q31
            have HW : Hid (wr.heap.size < E.drew.heap.size ∧ W.heap.size < E.drew.heap.size ∧ W2.heap.size ≤ wr.heap.size ∧ Below W2.heap.size W2 E.drew ∧ Tryz.cntM E.drew W2.heap.size i (cntP (pxs k R.toNat l) i)) := ⟨by rw [hE]; simp, by have := hbE.size; omega, hbw.size, hbE, hcE⟩
            have hcR : inR .i64 pc := by rw [inR_i64]; omega
            have hrR : inR .i64 pr := by rw [inR_i64]; omega
            have hcl := cntP_le (pxs k R.toNat l) i pc pr
            have hvR : inR .i64 (cntP (pxs k R.toNat l) i pc pr + 1) := by rw [inR_i64]; omega
            have hwp : IntKind.i64.wrap (cntP (pxs k R.toNat l) i pc pr + 1) = cntP (pxs k R.toNat l) i pc pr + 1 := by rw [IntKind.wrap_i64]; omega
            have HW2 : Hid (some W.heap.size ≠ some W2.heap.size ∧ some wr.heap.size ≠ some W2.heap.size) := ⟨by simp; omega, by have := Tryz.cntM_lt hcnt; simp; omega⟩
            clear hcE hbE gE hcnt
            go_wp2_with fail
            rw [← hE]
            clear hE
            go_region_held3 (fun w' => w'.cell? ⟨W.heap.size, 0, none⟩ = some (.int .i64 k) ∧ w'.cell? ⟨W.heap.size, 1, none⟩ = some (.int .i64 R) ∧ w'.cell? ⟨wr.heap.size, 0, none⟩ = some (.string ⟨x.1.toArray⟩) ∧ w'.cell? ⟨wr.heap.size, 1, none⟩ = some (.string ⟨x.2.1.toArray⟩) ∧ w'.cell? ⟨wr.heap.size, 2, none⟩ = some (.string ⟨x.2.2.toArray⟩)) (go_keep)
              (first | (go_at_call 42; refine Calls.mono hPx ?_; rintro e W5 ⟨v5, rfl, hb5, hr5⟩; obtain rfl : v5 = .agg #[.int .i64 pc, .int .i64 pr] := rep_pxinv hr5; clear hr5; have g0 := (hb5.cell (p := ⟨W.heap.size, 0, none⟩) HW.out.2.1).trans f3; have g1 := (hb5.cell (p := ⟨W.heap.size, 1, none⟩) HW.out.2.1).trans f4; have g2 := (hb5.cell (p := ⟨wr.heap.size, 0, none⟩) HW.out.1).trans f0; have g3 := (hb5.cell (p := ⟨wr.heap.size, 1, none⟩) HW.out.1).trans f1; have g4 := (hb5.cell (p := ⟨wr.heap.size, 2, none⟩) HW.out.1).trans f2; have hc5 := Tryz.cntM_kept HW.out.2.2.2.2 (gr_below hb5); obtain ⟨v0', st, W6, W7, hme, hes, hc7, hg7, hg6, hlk6⟩ := Tryz.cntM_store (v := cntP (pxs k R.toNat l) i pc pr + 1) hc5 (by unfold maxLen; omega) hcR hrR hvR; have hlk := Tryz.cntM_look hc5 hcR hrR; clear hc5; have k0 := hg6.cell g0 HW2.out.1; have k1 := hg6.cell g1 HW2.out.1; have k2 := hg6.cell g2 HW2.out.2; have k3 := hg6.cell g3 HW2.out.2; have k4 := hg6.cell g4 HW2.out.2; have l0 := hg7.cell g0 HW2.out.1; have l1 := hg7.cell g1 HW2.out.1; have l2 := hg7.cell g2 HW2.out.2; have l3 := hg7.cell g3 HW2.out.2; have l4 := hg7.cell g4 HW2.out.2))
            all_goals
              have hbW7 : Below W2.heap.size W2 W7 := (HW.out.2.2.2.1.trans (hb5.mono HW.out.2.2.2.1.size)).grown hg7 (by have := HW.out.2.2.2.1.size; have := hb5.size; omega) (fun k hk => by cases hk; exact Nat.le_refl _)
              have hc8 := Tryz.cntM_congr hc7 (g := cntP (pxs k R.toNat l) (i + 1)) (fun c' r' => by rw [cntP_succ, hpx])
              clear hc7
              go_wp2
              go_roundg (l.length - (i + 1))
              case measure => omega
              case rel => exact ⟨i + 1, by go_num, by omega, by omega, hc8, hbW7⟩
          · have hin : i = l.length := by omega
            subst hin
            have HM : Hid (∃ M : Nat, R = M) := ⟨R.toNat, by omega⟩
            have hwl : W2.heap.size < wr.heap.size := Tryz.cntM_lt hcnt
            have hwr : W.heap.size < wr.heap.size := by omega
            have hbWr := hb02.trans (hbw.mono hb02.size)
            clear hbw q20 q21 hb23 hb02 hl2
            generalize hf : cntP (pxs k R.toNat l) l.length = f at hcnt
            have HF : Hid (cntP (pxs k R.toNat l) l.length = f ∧ ∀ c r, 0 ≤ f c r ∧ f c r ≤ 900) := ⟨hf, fun c r => by rw [← hf]; have := cntP_le (pxs k R.toNat l) l.length c r; omega⟩
            clear hf
            obtain ⟨M, rfl⟩ := HM.out
            obtain ⟨wa, hwa⟩ : ∃ wa, wa = wr := ⟨wr, rfl⟩
            subst hwa
            rw [show ((M : Int)).toNat = M by omega] at HF
            go_wp2
            go_loopg [11, 13] (2 * M + 1) (fun gg s11 s13 w2 => ∃ (q : Nat) (y : Int), y = (M : Int) - q ∧ s13 = .int .i64 y ∧ q ≤ 2 * M + 1 ∧ 2 * M + 1 ≤ gg + q ∧ w2.ownsRow wa.heap.size 9 1 s11 q (strV (picB f M q)) ∧ Below wa.heap.size wa w2)
            case atStart => exact ⟨0, M, by simp, by simp, by omega, by omega, World.ownsRow_nil _ _ _ _, Below.refl _ _⟩
            case round =>
              obtain ⟨q, y, hy, rfl, hq, hgq, hown, hbq⟩ := hrel
              by_cases hql : q < 2 * M + 1
              · have hyl : -(M : Int) ≤ y ∧ y ≤ M := by omega
                have hc2 := Tryz.cntM_kept hcnt (gr_below hbq)
                have HY : Hid (y = (M : Int) - q) := hy
                clear hy
                obtain ⟨wb, hwb⟩ : ∃ wb, wb = wr := ⟨wr, rfl⟩
                subst hwb
                go_wp2
                go_loopg [14, 15] (2 * M + 1) (fun g3 s14 s15 w3 => ∃ (j : Nat) (x : Int), x = (j : Int) - M ∧ s15 = .int .i64 x ∧ j ≤ 2 * M + 1 ∧ 2 * M + 1 ≤ g3 + j ∧ w3.ownsRow wb.heap.size 5 1 s14 j (bytV (rowB f M y j)) ∧ Below wb.heap.size wb w3)
                case atStart => exact ⟨0, -(M : Int), by simp, by simp, by omega, by omega, World.ownsRow_nil _ _ _ _, Below.refl _ _⟩
                case round =>
                  obtain ⟨j, x, hxe, rfl, hj, hg3, hrow, hb3⟩ := hrel
                  by_cases hjl : j < 2 * M + 1
                  · have hxl : -(M : Int) ≤ x ∧ x ≤ M := by omega
                    have hc3 := Tryz.cntM_kept hc2 (gr_below hb3)
                    have hlk := Tryz.cntM_look hc3 (c := x) (r := y) (by rw [inR_i64]; omega) (by rw [inR_i64]; omega)
                    have hfc := HF.out.2 x y
                    have hrs := rowB_succ f M y j
                    rw [← hxe] at hrs
                    have HX : Hid (x = (j : Int) - M) := hxe
                    clear hxe
                    have hbn := mrkB_nat (f x y) x y M
                    generalize mrkB (f x y) x y M = bb at hrs hbn
                    unfold mrk at hbn
                    generalize f x y = c at *
                    have sx := sq900 (x := x) (by omega) (by omega)
                    have sy := sq900 (x := y) (by omega) (by omega)
                    have sM := sq900 (x := (M : Int)) (by omega) (by omega)
                    have HR3 : Hid (rowB f M y (j + 1) = rowB f M y j ++ [bb]) := hrs
                    clear hc3 hrs
                    by_cases b1 : 9 < c
                    · rw [if_pos b1] at hbn
                      go_wp2_with (at_builtin; refine wpList_append_lies _ rfl _ _ 97 rfl wb.heap.size 5 ib (.int .u8 0) 1 1 Tryz.underlying97 hib hib1.1 hib1.2.1 hib1.2.2 rfl (by decide) _ j (bytV (rowB f M y j)) rfl (hrow.alloc _) ⟨wr.heap.size, 0, none⟩ 1 1 [.int .u8 (42)] rfl rfl (World.news_of_block (heap_alloc_new wr _)) (by simp [Value.oneCell']) (by omega) (by unfold maxLen; omega) (by omega) (by simp; have := hb3.size; omega) (wr.heap.size + 1) (by simp) ?_; intro g cap' w4 ho4 hg4 hgl4 hlt4)
                      have hb4 : Below wb.heap.size wb w4 := (hb3.alloc hb3.size _).grown hg4 (by have := hb3.size; simp; omega) (fun k hk => (hrow.lt k hk).1)
                      rw [show (42 : Int) = (bb.toNat : Int) from hbn.symm, ← bytV_snoc, ← HR3.out] at ho4
                      go_wp2
                      go_roundg (2 * M + 1 - (j + 1))
                      case measure => omega
                      case rel => exact ⟨j + 1, x + 1, by have := HX.out; omega, by go_num, by omega, by omega, ho4, hb4⟩
                    · rw [if_neg b1] at hbn
                      by_cases b2 : 0 < c
                      · rw [if_pos b2] at hbn
                        have hw8 : IntKind.u8.wrap (48 + c) = 48 + c := by rw [IntKind.wrap_u8]; omega
                        go_wp2_with (at_builtin; refine wpList_append_lies _ rfl _ _ 97 rfl wb.heap.size 5 ib (.int .u8 0) 1 1 Tryz.underlying97 hib hib1.1 hib1.2.1 hib1.2.2 rfl (by decide) _ j (bytV (rowB f M y j)) rfl (hrow.alloc _) ⟨wr.heap.size, 0, none⟩ 1 1 [.int .u8 (48 + c)] rfl rfl (World.news_of_block (heap_alloc_new wr _)) (by simp [Value.oneCell']) (by omega) (by unfold maxLen; omega) (by omega) (by simp; have := hb3.size; omega) (wr.heap.size + 1) (by simp) ?_; intro g cap' w4 ho4 hg4 hgl4 hlt4)
                        have hb4 : Below wb.heap.size wb w4 := (hb3.alloc hb3.size _).grown hg4 (by have := hb3.size; simp; omega) (fun k hk => (hrow.lt k hk).1)
                        rw [show (48 + c : Int) = (bb.toNat : Int) from hbn.symm, ← bytV_snoc, ← HR3.out] at ho4
                        go_wp2
                        go_roundg (2 * M + 1 - (j + 1))
                        case measure => omega
                        case rel => exact ⟨j + 1, x + 1, by have := HX.out; omega, by go_num, by omega, by omega, ho4, hb4⟩
                      · rw [if_neg b2] at hbn
                        by_cases b3 : x * x + y * y ≤ (M : Int) * M
                        · rw [if_pos b3] at hbn
                          go_wp2_with (at_builtin; refine wpList_append_lies _ rfl _ _ 97 rfl wb.heap.size 5 ib (.int .u8 0) 1 1 Tryz.underlying97 hib hib1.1 hib1.2.1 hib1.2.2 rfl (by decide) _ j (bytV (rowB f M y j)) rfl (hrow.alloc _) ⟨wr.heap.size, 0, none⟩ 1 1 [.int .u8 (46)] rfl rfl (World.news_of_block (heap_alloc_new wr _)) (by simp [Value.oneCell']) (by omega) (by unfold maxLen; omega) (by omega) (by simp; have := hb3.size; omega) (wr.heap.size + 1) (by simp) ?_; intro g cap' w4 ho4 hg4 hgl4 hlt4)
                          have hb4 : Below wb.heap.size wb w4 := (hb3.alloc hb3.size _).grown hg4 (by have := hb3.size; simp; omega) (fun k hk => (hrow.lt k hk).1)
                          rw [show (46 : Int) = (bb.toNat : Int) from hbn.symm, ← bytV_snoc, ← HR3.out] at ho4
                          go_wp2
                          go_roundg (2 * M + 1 - (j + 1))
                          case measure => omega
                          case rel => exact ⟨j + 1, x + 1, by have := HX.out; omega, by go_num, by omega, by omega, ho4, hb4⟩
                        · rw [if_neg b3] at hbn
                          go_wp2_with (at_builtin; refine wpList_append_lies _ rfl _ _ 97 rfl wb.heap.size 5 ib (.int .u8 0) 1 1 Tryz.underlying97 hib hib1.1 hib1.2.1 hib1.2.2 rfl (by decide) _ j (bytV (rowB f M y j)) rfl (hrow.alloc _) ⟨wr.heap.size, 0, none⟩ 1 1 [.int .u8 (32)] rfl rfl (World.news_of_block (heap_alloc_new wr _)) (by simp [Value.oneCell']) (by omega) (by unfold maxLen; omega) (by omega) (by simp; have := hb3.size; omega) (wr.heap.size + 1) (by simp) ?_; intro g cap' w4 ho4 hg4 hgl4 hlt4)
                          have hb4 : Below wb.heap.size wb w4 := (hb3.alloc hb3.size _).grown hg4 (by have := hb3.size; simp; omega) (fun k hk => (hrow.lt k hk).1)
                          rw [show (32 : Int) = (bb.toNat : Int) from hbn.symm, ← bytV_snoc, ← HR3.out] at ho4
                          go_wp2
                          go_roundg (2 * M + 1 - (j + 1))
                          case measure => omega
                          case rel => exact ⟨j + 1, x + 1, by have := HX.out; omega, by go_num, by omega, by omega, ho4, hb4⟩
                  · have hjm : j = 2 * M + 1 := by omega
                    subst hjm
                    obtain ⟨g, cap', rfl, hg1, hg2⟩ := hrow.form (by omega)
                    have hcv : (convert 97 9 (.slice (some ⟨g, 0, none⟩) (2 * M + 1) cap')).run Tryz.prog wr = .ok (.string ⟨(rowB f M y (2 * M + 1)).toArray⟩) wr := by
                      have := run_convert_bytes_back (P := Tryz.prog) wr 97 9 5 ⟨g, 0, none⟩ cap' (rowB f M y (2 * M + 1)) Tryz.underlying97 Tryz.underlying5 Tryz.underlying9 (fun j hj => by
                        rw [addr_add, hrow.cellAt j (by rw [rowB_len] at hj; omega)]
                        simp [bytV, hj])
                      rwa [rowB_len] at this
                    have hpc := picB_succ f M q
                    rw [← HY.out] at hpc
                    have HP5 : Hid (picB f M (q + 1) = picB f M q ++ [rowB f M y (2 * M + 1)]) := hpc
                    clear hpc
                    have hll := rowB_len f M y (2 * M + 1)
                    generalize rowB f M y (2 * M + 1) = line at *
                    have hownK := hown.kept (gr_below (r := none) hb3) (Classical.em _)
                    go_wp2_with (at_builtin; refine wpList_append_lies _ rfl _ _ 64 rfl wa.heap.size 9 is (.string ⟨#[]⟩) 1 16 Tryz.underlying64 his his1.1 his1.2.1 his1.2.2 rfl (by decide) _ q (strV (picB f M q)) rfl (hownK.alloc _) ⟨wr.heap.size, 0, none⟩ 1 1 [.string ⟨line.toArray⟩] rfl rfl (World.news_of_block (heap_alloc_new wr _)) (by simp [Value.oneCell']) (by omega) (by unfold maxLen; omega) (by omega) (by simp; have := hb3.size; have := hbq.size; omega) (wr.heap.size + 1) (by simp) ?_; intro g5 cap5 w5 ho5 hg5 hgl5 hlt5)
                    have hb5 : Below wa.heap.size wa w5 := ((hbq.trans (hb3.mono hbq.size)).alloc (by have := hb3.size; have := hbq.size; omega) _).grown hg5 (by have := hb3.size; have := hbq.size; simp; omega) (fun k hk => (hown.lt k hk).1)
                    rw [← strV_snoc, ← HP5.out] at ho5
                    go_roundg (2 * M + 1 - (q + 1))
                    case measure => omega
                    case rel => exact ⟨q + 1, y - 1, by have := HY.out; omega, by go_num, by omega, by omega, ho5, hb5⟩
              · have hqm : q = 2 * M + 1 := by omega
                subst hqm
                go_wp2
                go_ret2
                have hpe : picE k M l = 0 := by unfold picE; rw [if_neg (by rw [if_neg (by rw [HE.out.1]; simp)]; rw [HE.out.2]; simp), if_neg e2]; exact HC3.out
                have hlp := picB_len f M (2 * M + 1)
                have hll : ∀ y ∈ picB f M (2 * M + 1), y.length ≤ maxLen := fun y hy => by
                  obtain ⟨q, _, rfl⟩ := List.mem_map.1 hy
                  rw [rowB_len]; unfold maxLen; omega
                refine ⟨.tuple #[u11, .int .i64 0], by simp, hbWr.trans (hbq.mono hbWr.size), ?_⟩
                unfold picR
                rw [if_pos hpe, show ((M : Int)).toNat = M by omega, HF.out.1]
                generalize picB f M (2 * M + 1) = pb at *
                refine Rep.tup [.sl (2 * M + 1) (pb.map .str), .int .i64 0] [u11, .int .i64 0] rfl fun i d v hd hv => ?_
                match i with
                | 0 =>
                  cases hd; cases hv
                  rw [← hlp] at hown ⊢
                  exact rep_ownS' hown hll (fun b _ h1 h2 => .inr ⟨by have := hbWr.size; omega, h2⟩)
                | 1 => cases hd; cases hv; exact .int _ _
                | i + 2 => simp at hd
      · have hpe : picE k R l = zerE l := by unfold picE; rw [if_neg (by rw [if_neg (by rw [HE.out.1]; simp)]; rw [HE.out.2]; simp), if_neg e2]
        have HP : Hid (picE k R l = zerE l) := hpe
        clear hpe e2
        generalize zerE l = z at *
        go_enter Tryz.func31, Tryz.ntmps31
        go_wp2_with (go_at_call 40; refine Calls.mono hO1 ?_; rintro e W1 ⟨v, rfl, hb1, hr1⟩; obtain rfl : v = .int .i64 0 := (by cases hr1; rfl); clear hr1; have q0 := (hb1.cell (p := ⟨W.heap.size, 0, none⟩) hsz1).trans hq0; have q1 := (hb1.cell (p := ⟨W.heap.size, 1, none⟩) hsz1).trans hq1; have hb01 := hbB.trans (hb1.mono hbB.size))
        have hZ1 := HZ.out _ hb01
        refine Calls.mono hZ1 ?_
        rintro e W2 ⟨v, rfl, hb2, hr2⟩
        obtain rfl : v = .int .i64 z := (by cases hr2; rfl)
        clear hr2 hZ1
        go_wp2
        go_ret2
        refine ⟨.tuple #[.slice none 0 0, .int .i64 z], by simp, hb01.trans (hb2.mono hb01.size), ?_⟩
        unfold picR
        rw [HP.out, if_neg e3]
        exact rep_errT _ _ _
  · have hpe : picE k R l = E := by unfold picE; rw [hE, if_pos e1]
    have HP : Hid (picE k R l = E) := hpe
    clear hpe hE
    go_enter Tryz.func31, Tryz.ntmps31
    go_wp2_with (go_at_call 40; refine Calls.mono hO1 ?_; rintro e W1 ⟨v, rfl, hb1, hr1⟩; obtain rfl : v = .int .i64 E := (by cases hr1; rfl); clear hr1; have q0 := (hb1.cell (p := ⟨W.heap.size, 0, none⟩) hsz1).trans hq0; have q1 := (hb1.cell (p := ⟨W.heap.size, 1, none⟩) hsz1).trans hq1; have hb01 := hbB.trans (hb1.mono hbB.size))
    go_ret2
    refine ⟨.tuple #[.slice none 0 0, .int .i64 E], by simp, hb01, ?_⟩
    unfold picR
    rw [HP.out, if_neg e1]
    exact rep_errT _ _ _
end Go.Proofs
