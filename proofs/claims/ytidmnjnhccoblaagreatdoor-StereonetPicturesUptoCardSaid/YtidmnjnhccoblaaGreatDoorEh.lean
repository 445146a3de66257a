/-
  slices.Repeat of vectors, in the plain walk. Own work.
-/
import Derived.Test.YtidmnjnhccoblaaGreatDoorEg
import Derived.Test.YtidmnjnhccoblaaGreatDoorEd
import Derived.Shelf.RegionOpenPlain
import Derived.Deep.RegionHeld3
import Derived.Deep.LoopGhost
import Derived.OwnWalk
import Derived.Test.YtidmnjnhccoblaaGreatDoorEa
set_option linter.unusedVariables false
set_option linter.unusedSimpArgs false
namespace Go.Pi
open Go Go.RowKit
theorem repl_add {α : Type} (a b : Nat) (l : List α) : (List.replicate (a + b) l).flatten = (List.replicate a l).flatten ++ (List.replicate b l).flatten := by
  induction a with
  | zero => simp
  | succ a ih => rw [Nat.succ_add, List.replicate_succ, List.flatten_cons, ih, List.replicate_succ, List.flatten_cons, List.append_assoc]
theorem repl_len {α : Type} (k : Nat) (l : List α) : ((List.replicate k l).flatten).length = k * l.length := by
  induction k with
  | zero => simp
  | succ k ih => rw [List.replicate_succ, List.flatten_cons, List.length_append, ih, Nat.succ_mul]; omega
/-- a list repeated is periodic -/
theorem repl_take {α : Type} {k q d z : Nat} {l : List α} (hq : q ≤ k) (hz : z = q * l.length) (hd : z + d ≤ k * l.length) :
    ((List.replicate k l).flatten).take (z + d) = ((List.replicate k l).flatten).take z ++ ((List.replicate k l).flatten).take d := by
  obtain ⟨r, rfl⟩ : ∃ r, k = q + r := ⟨k - q, by omega⟩
  have e1 := repl_add q r l
  have e2 : (List.replicate (q + r) l).flatten = (List.replicate r l).flatten ++ (List.replicate q l).flatten := by rw [Nat.add_comm, repl_add]
  have l1 := repl_len q l
  have l2 := repl_len r l
  rw [Nat.add_mul] at hd
  conv => lhs; rw [e1]
  rw [List.take_append, l1, List.take_of_length_le (by omega), show z + d - q * l.length = d by omega]
  congr 1
  · rw [e1, List.take_append, l1, List.take_of_length_le (by omega), show z - q * l.length = 0 by omega]; simp
  · rw [e2, List.take_append, show d - ((List.replicate r l).flatten).length = 0 by omega]; simp
theorem Reps.repl {S : Nat → Nat → Prop} {w : World} {ds : List D} {vs : List Value} (h : Reps S w ds vs) : ∀ k, Reps S w (List.replicate k ds).flatten (List.replicate k vs).flatten
  | 0 => Reps.nil
  | k + 1 => by rw [List.replicate_succ, List.replicate_succ, List.flatten_cons, List.flatten_cons]; exact h.app (Reps.repl h k)
end Go.Pi
namespace Go.Proofs
open Go Go.Pi Go.RowKit Go.Shelf

set_option maxRecDepth 100000 in
set_option maxHeartbeats 4000000 in
theorem Tryz.vrepeat (n k : Nat) (ds : List D) (hds : ds.length = n * 3) (hn : n ≤ 1000000) (hk : k ≤ 1000) : Con Tryz.prog Tryz.L 30 [.sl n ds, .int .i64 k] (.sl (k * n) (List.replicate k ds).flatten) := by
  have mixed : Tryz.prog.follows .mixedOrders = true := by kernel_rfl
  have t0 := Tryz.underlying46; have a0 := Tryz.isAgg46; have z0 := Tryz.sizeOf46; have v0 := Tryz.zeroValue46; have u0 := run_underlying Tryz.underlying46
  have t3 := Tryz.underlying4; have a3 := Tryz.isAgg4; have z3 := Tryz.sizeOf4; have v3 := Tryz.zeroValue4; have u3 := run_underlying Tryz.underlying4
  have t4 := Tryz.underlying3; have a4 := Tryz.isAgg3; have z4 := Tryz.sizeOf3; have v4 := Tryz.zeroValue3; have u4 := run_underlying Tryz.underlying3
  have t5 := Tryz.underlying94; have a5 := Tryz.isAgg94; have z5 := Tryz.sizeOf94; have v5 := Tryz.zeroValue94; have u5 := run_underlying Tryz.underlying94
  have hinf : (Tryz.prog.info? 26).map (fun i => (i.zero, i.size, i.bytes)) = some (some (.agg #[.string ⟨#[]⟩, .string ⟨#[]⟩, .string ⟨#[]⟩]), 3, 48) := by kernel_rfl
  obtain ⟨ti, hti, htz⟩ := Option.map_eq_some_iff.1 hinf
  simp only [Prod.mk.injEq] at htz
  have hnk : n * k ≤ 1000000 * 1000 := Nat.mul_le_mul hn hk
  obtain ⟨N, hN⟩ : ∃ N, N = n * k := ⟨_, rfl⟩
  rw [← hN] at hnk
  rw [show k * n = N by rw [hN, Nat.mul_comm]]
  refine ⟨⟨by kernel_rfl, rfl⟩, fun S W vs hS hL hrep => ?_⟩
  obtain ⟨va, r1, rfl, hra, t1'⟩ := hrep.uncons
  obtain ⟨vb, r2, rfl, hrb, t2'⟩ := t1'.uncons
  obtain rfl : r2 = [] := List.length_eq_zero_iff.1 t2'.1.symm
  obtain rfl : vb = .int .i64 k := by cases hrb; rfl
  clear t1' t2' hrep hrb
  have hmul := Tryz.bits_Mul n k (by omega) (by omega) W
  rw [← hN, Nat.div_eq_of_lt (by omega), Nat.mod_eq_of_lt (by omega)] at hmul
  have w1 : IntKind.u64.wrap (n : Int) = (n : Int) := by rw [IntKind.wrap_u64]; omega
  have w2 : IntKind.u64.wrap (k : Int) = (k : Int) := by rw [IntKind.wrap_u64]; omega
  have w3 : IntKind.i64.wrap (N : Int) = (N : Int) := by rw [IntKind.wrap_i64]; omega
  have k0 : ¬((k : Int) < 0) := by omega
  have hform : ∃ ad cap, va = .slice ad n cap := by cases hra <;> exact ⟨_, _, rfl⟩
  obtain ⟨ad, cap, rfl⟩ := hform
  have HN : Hid (N = n * k) := hN
  clear hN
  have hsz : (Tryz.prog.info? 26).map (·.size) = some 3 := by rw [hti, Option.map_some, htz.2.1]
  have hmk := fun (w : World) => run_make_full (P := Tryz.prog) w w.heap.size 46 26 ti _ 3 Tryz.underlying46 hti htz.1 htz.2.1 .i64 .i64 N (by rw [htz.2.2]; omega) (by unfold maxLen; omega) (Nat.le_refl _)
  obtain ⟨W1, hrun, ho1, hg1⟩ := hmk W
  have hcl := ho1.1
  generalize (madeCells (Value.agg #[.string ⟨#[]⟩, .string ⟨#[]⟩, .string ⟨#[]⟩]).cells (N * 3)).toList = xs at ho1 hcl
  show Calls _ _ #[.slice ad n cap, .int .i64 k] _ _
  clear hinf hmk
  by_cases hz : N = 0
  · subst hz
    have e0 : n = 0 ∨ k = 0 := by have := HN.out; rcases Nat.eq_zero_or_pos n with h | h; exact .inl h; rcases Nat.eq_zero_or_pos k with h2 | h2; exact .inr h2; have := Nat.mul_pos h h2; omega
    rw [show ((0 : Nat) : Int) = 0 from rfl] at hrun hmul
    have hcp := fun ty => run_copy_zero W1 46 46 ty 26 3 (some ⟨W.heap.size, 0, none⟩) ad 0 0 n cap Tryz.underlying46 hsz (Nat.min_zero n)
    have hB := Below.refl W.heap.size W
    have hb1 : Below W.heap.size W W1 := hB.grown hg1 (Nat.le_refl _) (fun k hk => by cases hk)
    go_enter Tryz.func30, Tryz.ntmps30
    go_wp2_with (first
      | (go_at_call 66; refine Calls.mono hmul ?_; rintro e W9 ⟨rfl, rfl⟩)
      | (at_builtin; refine wpList_copy _ rfl _ _ 46 46 rfl _ _ rfl rfl (hcp _) ?_))
    go_loopg [8] 0 (fun gg s8 wr => s8 = .int .i64 0 ∧ wr = W1)
    case atStart => exact ⟨rfl, rfl⟩
    case round =>
      obtain ⟨rfl, rfl⟩ := hrel
      go_wp2
      go_ret
      refine ⟨_, rfl, hb1, ?_⟩
      have e1 : (List.replicate k ds).flatten = [] := by
        rcases e0 with h | h
        · rw [h] at hds
          have : ds = [] := List.length_eq_zero_iff.1 (by omega)
          rw [this]
          apply List.length_eq_zero_iff.1
          rw [repl_len]; simp
        · rw [h]; rfl
      rw [e1]
      exact .sl0 _ _ (by unfold maxLen; omega)
  · have hn1 : 0 < n := by rcases Nat.eq_zero_or_pos n with h | h; · exact absurd (by rw [HN.out, h]; simp) hz
                           · exact h
    have hk1 : 0 < k := by rcases Nat.eq_zero_or_pos k with h | h; · exact absurd (by rw [HN.out, h]; simp) hz
                           · exact h
    have hnN : n ≤ N := by rw [HN.out]; exact Nat.le_mul_of_pos_right n hk1
    obtain ⟨b, off, ws, rfl, hone, hrow, hreps⟩ : ∃ b off ws, ad = some ⟨b, off, none⟩ ∧ (∀ d ∈ ds, d.one = true) ∧ Row S W b off ws ∧ Reps S W ds ws := by
      cases hra with
      | sl0 a cap hc => simp at hn1
      | slN => simp at hn1
      | sl n ds b off cap vs hl h1 hn hc hr h => exact ⟨b, off, vs, rfl, h1, hr, hl, h⟩
    have hwl : ws.length = n * 3 := by rw [← hreps.1, hds]
    have hw1 : ∀ u ∈ ws, u.oneCell' = true := fun u hu => by
      obtain ⟨i, hi⟩ := List.getElem?_of_mem hu
      obtain ⟨d, hd⟩ : ∃ d, ds[i]? = some d := by
        have := (List.getElem?_eq_some_iff.1 hi).1
        exact ⟨_, List.getElem?_eq_getElem (by rw [hreps.1]; exact this)⟩
      exact (hreps.2 i d u hd hi).oneCell (hone d (List.mem_of_getElem? hd))
    have hrk := Reps.repl hreps k
    have hfl : ((List.replicate k ws).flatten).length = N * 3 := by rw [repl_len, hwl, HN.out, ← Nat.mul_assoc, Nat.mul_comm k n]
    have hper : ∀ q d, q ≤ k → n * q + d ≤ N → ((List.replicate k ws).flatten).take ((n * q + d) * 3) = ((List.replicate k ws).flatten).take (n * q * 3) ++ ((List.replicate k ws).flatten).take (d * 3) := fun q d hq hd => by
      rw [Nat.add_mul]
      refine repl_take hq (by rw [hwl, ← Nat.mul_assoc, Nat.mul_comm n q]) ?_
      rw [hwl, ← Nat.add_mul, ← Nat.mul_assoc, Nat.mul_comm k n, ← HN.out]
      exact Nat.mul_le_mul_right _ hd
    have hfn : ((List.replicate k ws).flatten).take (n * 3) = ws := by
      obtain ⟨j, rfl⟩ : ∃ j, k = j + 1 := ⟨k - 1, by omega⟩
      rw [List.replicate_succ, List.flatten_cons, ← hwl, List.take_left']
      rfl
    have hf1 : ∀ u ∈ (List.replicate k ws).flatten, u.oneCell' = true := fun u hu => by
      obtain ⟨l, hl, hu⟩ := List.mem_flatten.1 hu
      rw [(List.mem_replicate.1 hl).2] at hu
      exact hw1 u hu
    generalize (List.replicate k ws).flatten = full at *
    have hB := Below.refl W.heap.size W
    have hb1 : Below W.heap.size W W1 := hB.grown hg1 (Nat.le_refl _) (fun k hk => by cases hk)
    obtain ⟨W2, hcp, ho2, hg2⟩ := run_copy_own W1 46 46 3 26 W.heap.size 3 W.heap.size N N 0 N N n ⟨b, off, none⟩ n cap xs ws Tryz.underlying46 hsz ho1
      (Nat.min_eq_left hnN) (by omega) hwl (fun j v hj => by
        have hc := (hrow j v hj)
        rw [show (⟨b, off, none⟩ : Addr).add j = ⟨b, off + j, none⟩ by unfold Addr.add; split <;> simp_all]
        exact (hb1.cell (p := ⟨b, off + j, none⟩) (hS _ _ hc.1)).trans hc.2) hw1
    rw [show 0 * 3 = 0 from rfl] at hcp ho2
    rw [List.take_zero, List.nil_append] at ho2
    have hb2 : Below W.heap.size W W2 := hb1.grown hg2 (by have := hg1.size; omega) (fun k hk => by cases hk; exact Nat.le_refl _)
    have HS : Hid (∀ (b j : Nat), S b j → b < W.heap.size) := hS
    have HH : Hid (Reps S W (List.replicate k ds).flatten full) := hrk
    have HP : Hid (full.length = N * 3 ∧ full.take (n * 3) = ws ∧ (∀ u ∈ full, u.oneCell' = true) ∧ (∀ q d, q ≤ k → n * q + d ≤ N → full.take ((n * q + d) * 3) = full.take (n * q * 3) ++ full.take (d * 3)) ∧ ∀ d ∈ (List.replicate k ds).flatten, d.one = true) := ⟨hfl, hfn, hf1, hper, fun d hd => by
      obtain ⟨l, hl, hu⟩ := List.mem_flatten.1 hd
      rw [(List.mem_replicate.1 hl).2] at hu
      exact hone d hu⟩
    clear hrk hfl hfn hf1 hper hw1 hone hreps hS hrow hra hds hB hb1 ho1 hg1 hg2 hcl
    have n0 : ((0 : Int) < (N : Int)) := by omega
    go_enter Tryz.func30, Tryz.ntmps30
    go_wp2_with (first
      | (go_at_call 66; refine Calls.mono hmul ?_; rintro e W9 ⟨rfl, hw⟩; obtain rfl := hw.symm; clear hw)
      | (at_builtin; refine wpList_copy _ rfl _ _ 46 46 rfl _ _ rfl rfl hcp ?_))
    go_loopg [8] N (fun gg s8 wr => ∃ m : Nat, s8 = .int .i64 m ∧ m ≤ N ∧ N ≤ gg + m ∧ 0 < m ∧ Hid (m = N ∨ ∃ q, q ≤ k ∧ m = n * q) ∧ ∃ ys, Hid (ys.take (m * 3) = full.take (m * 3)) ∧ wr.ownsRow W.heap.size 26 3 (.slice (some ⟨W.heap.size, 0, none⟩) N N) N ys ∧ Below W.heap.size W wr)
    case atStart =>
      refine ⟨n, rfl, hnN, by omega, hn1, .inr ⟨1, hk1, by omega⟩, _, ?_, ho2, hb2⟩
      rw [HP.out.2.1, List.take_append_of_le_length (by omega), ← hwl, List.take_length]; exact rfl
    case round =>
      clear ho2 hb2 hcp
      obtain ⟨m, rfl, hmN, hgg, hm0, HQ, ys, HY, hown, hbw⟩ := hrel
      by_cases hlt : m < N
      · have i0 : (0 : Int) ≤ (m : Int) := Int.natCast_nonneg _
        have i1 : (m : Int) < (N : Int) := by omega
        have i2 : (m : Int) ≤ (N : Int) := by omega
        have dd : ∃ d, d = Nat.min m (N - m) ∧ 0 < d ∧ d ≤ m ∧ m + d ≤ N ∧ (m + d = N ∨ d = m) := by
          by_cases h : m ≤ N - m
          · exact ⟨m, (Nat.min_eq_left h).symm, hm0, Nat.le_refl _, by omega, .inr rfl⟩
          · exact ⟨N - m, (Nat.min_eq_right (by omega)).symm, by omega, by omega, by omega, .inl (by omega)⟩
        obtain ⟨d, hd1, hd2, hd3, hd4, hd5⟩ := dd
        have hyl := hown.1
        have hyd : ys.take (d * 3) = full.take (d * 3) := by
          have := congrArg (List.take (d * 3)) HY.out
          rwa [List.take_take, List.take_take, Nat.min_eq_left (by omega)] at this
        obtain ⟨wc, hcp, hoc, hgc⟩ := run_copy_own wr.drew 46 46 3 26 W.heap.size 3 W.heap.size N N m (N - m) (N - m) d ⟨W.heap.size, 0, none⟩ m N ys (full.take (d * 3)) Tryz.underlying46 hsz hown.drew
          hd1.symm hd4 (by rw [List.length_take, HP.out.1]; omega) (fun j v hj => by
            have hj2 : j < d * 3 := by
              have := (List.getElem?_eq_some_iff.1 hj).1
              rw [List.length_take] at this; omega
            rw [← hyd, List.getElem?_take, if_pos hj2] at hj
            rw [show (⟨W.heap.size, 0, none⟩ : Addr).add j = ⟨W.heap.size, j, none⟩ by unfold Addr.add; split <;> simp_all]
            rw [hown.drew.cellAt j (by omega)]
            exact hj) (fun u hu => HP.out.2.2.1 u (List.mem_of_mem_take hu))
        have hbd : Below W.heap.size W wr.drew := hbw.grown (gr_drew (gr_self wr (r := none))) hbw.size (fun k hk => by cases hk)
        have hbc : Below W.heap.size W wc := hbd.grown hgc (by have := hbd.size; omega) (fun k hk => by cases hk; exact Nat.le_refl _)
        have HC : Hid ((ys.take (m * 3) ++ full.take (d * 3) ++ ys.drop (m * 3 + d * 3)).take ((m + d) * 3) = full.take ((m + d) * 3)) := by
          show _ = _
          have hl1 : (ys.take (m * 3) ++ full.take (d * 3)).length = (m + d) * 3 := by rw [List.length_append, List.length_take, List.length_take, HP.out.1]; omega
          rw [List.take_left' hl1, HY.out]
          rcases HQ.out with h | ⟨q, hq1, rfl⟩
          · omega
          · exact (HP.out.2.2.2.1 q d hq1 hd4).symm
        have HQ2 : Hid (m + d = N ∨ ∃ q, q ≤ k ∧ m + d = n * q) := by
          rcases hd5 with h | h
          · exact .inl h
          · rcases HQ.out with h2 | ⟨q, hq1, h2⟩
            · omega
            · refine .inr ⟨2 * q, ?_, by rw [h, h2, Nat.mul_left_comm, Nat.two_mul]⟩
              have := HN.out
              have h3 : n * (2 * q) ≤ n * k := by rw [Nat.mul_left_comm, Nat.two_mul, ← h2, ← this]; omega
              exact Nat.le_of_mul_le_mul_left h3 hn1
        clear hown hbw HY HQ hyd hd1 hd5 hyl
        go_wp2_with fail
        have e9 : (if N = m then some (⟨W.heap.size, 0, none⟩ : Addr) else some ⟨W.heap.size, m * 3, none⟩) = some ⟨W.heap.size, m * 3, none⟩ := if_neg (by omega)
        rw [← e9] at hcp
        clear e9
        go_region_held3 (fun w' => True) (trivial) ((refine step_copy (by rfl) _ _ 46 46 (by rfl) _ _ (by rfl) (by rfl) hcp ?_))
        go_wp2
        go_roundg (N - (m + d))
        case measure => omega
        case rel => exact ⟨m + d, by first | go_num | (rw [show IntKind.i64.wrap ((m : Int) + d) = ((m + d : Nat) : Int) by rw [IntKind.wrap_i64]; omega]) | (congr 1; omega), hd4, by omega, by omega, HQ2, _, HC, hoc, hbc⟩
      · have hmm : m = N := by omega
        subst hmm
        go_wp2
        go_ret
        have hyl := hown.1
        have e : ys = full := by
          have := HY.out
          rwa [List.take_of_length_le (by omega), List.take_of_length_le (by rw [HP.out.1]; exact Nat.le_refl _)] at this
        subst e
        refine ⟨_, rfl, hbw, ?_⟩
        refine Rep.sl m _ W.heap.size 0 m ys HH.out.1 HP.out.2.2.2.2 (Nat.le_refl _) (by unfold maxLen; omega) (fun i u hu => ?_) ?_
        · exact ⟨.inr ⟨Nat.le_refl _, (hown.lt _ rfl).2⟩, by rw [Nat.zero_add, hown.cellAt i (by have := (List.getElem?_eq_some_iff.1 hu).1; omega)]; exact hu⟩
        · exact fun i d v hd hv => (HH.out.2 i d v hd hv).mono (fun _ _ z => .inl z) (fun b o z => hbw.cell (p := ⟨b, o, none⟩) (HS.out b o z))
end Go.Proofs

/-
  DIRECTIONS ON A NET: multiples of a root compared with numbers; the greatest place that is reached. Own work.
-/
namespace Go.Ne

theorem sqle {x y : Rat} (hx : 0 ≤ x) (hy : 0 ≤ y) : x * x ≤ y * y ↔ x ≤ y := by
  constructor
  · intro h
    refine Rat.not_lt.1 fun h' => ?_
    have p1 := Rat.mul_pos (show 0 < x - y by grind) (show 0 < x - y by grind)
    have p2 := Rat.mul_nonneg hy (show 0 ≤ x - y by grind)
    grind
  · intro h
    have p1 := Rat.mul_nonneg hx (show 0 ≤ y - x by grind)
    have p2 := Rat.mul_nonneg hy (show 0 ≤ y - x by grind)
    grind
/-- a times the root of s is at most b -/
def rle (a s b : Rat) : Prop := if 0 ≤ a then 0 ≤ b ∧ a * a * s ≤ b * b else 0 ≤ b ∨ b * b ≤ a * a * s
instance (a s b : Rat) : Decidable (rle a s b) := by unfold rle; infer_instance
theorem rle_pos {a s b : Rat} (ha : 0 ≤ a) : rle a s b ↔ 0 ≤ b ∧ a * a * s ≤ b * b := by unfold rle; rw [if_pos ha]
theorem rle_neg {a s b : Rat} (ha : a < 0) : rle a s b ↔ 0 ≤ b ∨ b * b ≤ a * a * s := by unfold rle; rw [if_neg (Rat.not_le.2 ha)]
theorem up {a b c d s : Rat} (ha : 0 ≤ a) (hb : 0 ≤ b) (hc : 0 ≤ c) (hd : 0 ≤ d) (hs : 0 ≤ s) (h : a * a * s ≤ b * b) (k : c * c * s ≤ d * d) : a * c * s ≤ b * d := by
  refine (sqle (Rat.mul_nonneg (Rat.mul_nonneg ha hc) hs) (Rat.mul_nonneg hb hd)).1 ?_
  have p1 := Rat.mul_nonneg (show 0 ≤ b * b - a * a * s by grind) (show 0 ≤ d * d by exact Rat.mul_nonneg hd hd)
  have p2 := Rat.mul_nonneg (show 0 ≤ d * d - c * c * s by grind) (show 0 ≤ a * a * s by exact Rat.mul_nonneg (Rat.mul_nonneg ha ha) hs)
  grind
theorem down {a b c d s : Rat} (ha : 0 ≤ a) (hb : 0 ≤ b) (hc : 0 ≤ c) (hd : 0 ≤ d) (hs : 0 ≤ s) (h : b * b ≤ a * a * s) (k : d * d ≤ c * c * s) : b * d ≤ a * c * s := by
  refine (sqle (Rat.mul_nonneg hb hd) (Rat.mul_nonneg (Rat.mul_nonneg ha hc) hs)).1 ?_
  have p1 := Rat.mul_nonneg (show 0 ≤ a * a * s - b * b by grind) (show 0 ≤ d * d by exact Rat.mul_nonneg hd hd)
  have p2 := Rat.mul_nonneg (show 0 ≤ c * c * s - d * d by grind) (show 0 ≤ a * a * s by exact Rat.mul_nonneg (Rat.mul_nonneg ha ha) hs)
  grind
/-- sums -/
theorem rle_add {a b c d s : Rat} (hs : 0 ≤ s) (h : rle a s b) (k : rle c s d) : rle (a + c) s (b + d) := by
  have main : ∀ {a b c d : Rat}, 0 ≤ a → c < 0 → rle a s b → rle c s d → rle (a + c) s (b + d) := by
    intro a b c d ha hc h k
    obtain ⟨h1, h2⟩ := (rle_pos ha).1 h
    have k' := (rle_neg hc).1 k
    by_cases hd : 0 ≤ d
    · by_cases hac : 0 ≤ a + c
      · refine (rle_pos hac).2 ⟨by grind, ?_⟩
        have p1 := Rat.mul_nonneg (Rat.mul_nonneg (show 0 ≤ -c by grind) (show 0 ≤ a + (a + c) by grind)) hs
        have p2 := Rat.mul_nonneg hd (show 0 ≤ b + (b + d) by grind)
        grind
      · exact (rle_neg (Rat.not_le.1 hac)).2 (.inl (by grind))
    · have hd' := Rat.not_le.1 hd
      have k2 : d * d ≤ c * c * s := k'.resolve_left hd
      by_cases hac : 0 ≤ a + c
      · have hbd : 0 ≤ b + d := by
          have p1 := Rat.mul_nonneg (Rat.mul_nonneg (show 0 ≤ a + c by grind) (show 0 ≤ a - c by grind)) hs
          have := (sqle (show 0 ≤ -d by grind) h1).1 (by grind)
          grind
        refine (rle_pos hac).2 ⟨hbd, Rat.not_lt.1 fun hn => ?_⟩
        have p := down (a := a + c) (b := b + d) (c := -c) (d := -d) hac hbd (by grind) (by grind) hs (Rat.le_of_lt hn) (by grind)
        grind
      · refine (rle_neg (Rat.not_le.1 hac)).2 ?_
        by_cases hbd : 0 ≤ b + d
        · exact .inl hbd
        · refine .inr (Rat.not_lt.1 fun hn => ?_)
          have p := up (a := -(a + c)) (b := -(b + d)) (c := a) (d := b) (by grind) (by grind) ha h1 hs (by have := Rat.le_of_lt hn; grind) h2
          grind
  by_cases ha : 0 ≤ a
  · by_cases hc : 0 ≤ c
    · obtain ⟨h1, h2⟩ := (rle_pos ha).1 h
      obtain ⟨k1, k2⟩ := (rle_pos hc).1 k
      refine (rle_pos (by grind)).2 ⟨by grind, ?_⟩
      have := up ha h1 hc k1 hs h2 k2
      grind
    · exact main ha (Rat.not_le.1 hc) h k
  · by_cases hc : 0 ≤ c
    · have := main hc (Rat.not_le.1 ha) k h
      rwa [Rat.add_comm c, Rat.add_comm d] at this
    · have ha' := Rat.not_le.1 ha
      have hc' := Rat.not_le.1 hc
      have h' := (rle_neg ha').1 h
      have k' := (rle_neg hc').1 k
      refine (rle_neg (by grind)).2 ?_
      have pa := Rat.mul_nonneg (Rat.mul_nonneg (show 0 ≤ -a by grind) (show 0 ≤ -c by grind)) hs
      have pb := Rat.mul_nonneg (Rat.mul_nonneg (show 0 ≤ -a by grind) (show 0 ≤ -a by grind)) hs
      have pc := Rat.mul_nonneg (Rat.mul_nonneg (show 0 ≤ -c by grind) (show 0 ≤ -c by grind)) hs
      by_cases hb : 0 ≤ b
      · by_cases hd : 0 ≤ d
        · exact .inl (by grind)
        · have k2 := k'.resolve_left hd
          by_cases hbd : 0 ≤ b + d
          · exact .inl hbd
          · have q := (sqle (show 0 ≤ -(b + d) by grind) (show 0 ≤ -d by grind)).2 (by grind)
            exact .inr (by grind)
      · have h2 := h'.resolve_left hb
        by_cases hd : 0 ≤ d
        · by_cases hbd : 0 ≤ b + d
          · exact .inl hbd
          · have q := (sqle (show 0 ≤ -(b + d) by grind) (show 0 ≤ -b by grind)).2 (by grind)
            exact .inr (by grind)
        · have k2 := k'.resolve_left hd
          have p := down (a := -a) (b := -b) (c := -c) (d := -d) (by grind) (by grind) (by grind) (by grind) hs (by grind) (by grind)
          exact .inr (by grind)
theorem rle_easy {a s b : Rat} (ha : a ≤ 0) (hb : 0 ≤ b) : rle a s b := by
  by_cases h : 0 ≤ a
  · have : a = 0 := by grind
    subst this
    refine (rle_pos h).2 ⟨hb, ?_⟩
    have := Rat.mul_nonneg hb hb
    grind
  · exact (rle_neg (Rat.not_le.1 h)).2 (.inl hb)
/-- the same in a greater scale -/
theorem rle_scale {a s b t : Rat} (ht : 0 < t) : rle (t * a) s (t * b) ↔ rle a s b := by
  have tn : 0 ≤ t := Rat.le_of_lt ht
  have tt := Rat.mul_pos ht ht
  have key : ∀ x : Rat, 0 ≤ t * x ↔ 0 ≤ x := fun x => by
    constructor
    · intro h
      refine Rat.not_lt.1 fun h' => ?_
      have := Rat.mul_pos ht (show 0 < -x by grind)
      grind
    · exact Rat.mul_nonneg tn
  have key2 : ∀ x y : Rat, t * t * x ≤ t * t * y ↔ x ≤ y := fun x y => by
    constructor
    · intro h
      refine Rat.not_lt.1 fun h' => ?_
      have := Rat.mul_pos tt (show 0 < x - y by grind)
      grind
    · intro h
      have := Rat.mul_nonneg (Rat.le_of_lt tt) (show 0 ≤ y - x by grind)
      grind
  have e1 : t * a * (t * a) * s = t * t * (a * a * s) := by grind
  have e2 : t * b * (t * b) = t * t * (b * b) := by grind
  unfold rle
  rw [e1, e2]
  simp only [key, key2]
/-- the places of a direction: of the coordinate c, with the depth d and the square s of the length, on a net of the kind `area` with the radius R: a half of m is reached -/
def hitA (R c d s m : Rat) : Prop := rle m s (2 * R * c - m * d)
def hitB (R c d s m : Rat) : Prop :=
  if 0 ≤ m then 0 ≤ c ∧ rle (m * m * d) s (2 * R * c * (2 * R * c) - m * m * s) else 0 ≤ c ∨ rle (-(m * m * d)) s (-(2 * R * c * (2 * R * c) - m * m * s))
def hit (area : Bool) (R c d s m : Rat) : Prop := if area then hitB R c d s m else hitA R c d s m
instance (R c d s m : Rat) : Decidable (hitA R c d s m) := by unfold hitA; infer_instance
instance (R c d s m : Rat) : Decidable (hitB R c d s m) := by unfold hitB; infer_instance
instance (area : Bool) (R c d s m : Rat) : Decidable (hit area R c d s m) := by unfold hit; infer_instance
theorem hitA_anti {R c d s m n : Rat} (hs : 0 ≤ s) (hd : 0 ≤ d) (h : hitA R c d s m) (hn : n ≤ m) : hitA R c d s n := by
  unfold hitA at *
  have := rle_add hs h (rle_easy (s := s) (a := n - m) (b := (m - n) * d) (by grind) (Rat.mul_nonneg (by grind) hd))
  have e1 : m + (n - m) = n := by grind
  have e2 : 2 * R * c - m * d + (m - n) * d = 2 * R * c - n * d := by grind
  rwa [e1, e2] at this
theorem hitB_anti {R c d s m n : Rat} (hs : 0 ≤ s) (hd : 0 ≤ d) (h : hitB R c d s m) (hn : n ≤ m) : hitB R c d s n := by
  unfold hitB at *
  by_cases h0 : 0 ≤ n
  · rw [if_pos (show 0 ≤ m by grind)] at h
    rw [if_pos h0]
    refine ⟨h.1, ?_⟩
    have p := (sqle h0 (show 0 ≤ m by grind)).2 hn
    have := rle_add hs h.2 (rle_easy (s := s) (a := -((m * m - n * n) * d)) (b := (m * m - n * n) * s) (by have := Rat.mul_nonneg (show 0 ≤ m * m - n * n by grind) hd; grind) (Rat.mul_nonneg (by grind) hs))
    have e1 : m * m * d + -((m * m - n * n) * d) = n * n * d := by grind
    have e2 : 2 * R * c * (2 * R * c) - m * m * s + (m * m - n * n) * s = 2 * R * c * (2 * R * c) - n * n * s := by grind
    rwa [e1, e2] at this
  · rw [if_neg h0]
    by_cases h1 : 0 ≤ m
    · rw [if_pos h1] at h; exact .inl h.1
    · rw [if_neg h1] at h
      rcases h with h | h
      · exact .inl h
      · refine .inr ?_
        have p := (sqle (show 0 ≤ -m by grind) (show 0 ≤ -n by grind)).2 (by grind)
        have := rle_add hs h (rle_easy (s := s) (a := -((n * n - m * m) * d)) (b := (n * n - m * m) * s) (by have := Rat.mul_nonneg (show 0 ≤ n * n - m * m by grind) hd; grind) (Rat.mul_nonneg (by grind) hs))
        have e1 : -(m * m * d) + -((n * n - m * m) * d) = -(n * n * d) := by grind
        have e2 : -(2 * R * c * (2 * R * c) - m * m * s) + (n * n - m * m) * s = -(2 * R * c * (2 * R * c) - n * n * s) := by grind
        rwa [e1, e2] at this
theorem hit_anti {area : Bool} {R c d s m n : Rat} (hs : 0 ≤ s) (hd : 0 ≤ d) (h : hit area R c d s m) (hn : n ≤ m) : hit area R c d s n := by
  cases area
  · exact hitA_anti hs hd h hn
  · exact hitB_anti hs hd h hn
theorem rle_unit {s c : Rat} (hc : c * c ≤ s) : rle (-1) s c := (rle_neg (by grind)).2 (by by_cases h : 0 ≤ c <;> grind)
/-- the least place is reached -/
theorem hit_least {area : Bool} {R c d s : Rat} (hR : 0 ≤ R) (hc : c * c ≤ s) (hd : 0 ≤ d) : hit area R c d s (-(2 * R) - 1) := by
  have hs : 0 ≤ s := by
    have : 0 ≤ c * c := by
      rcases Rat.le_total (a := 0) (b := c) with h | h
      · exact Rat.mul_nonneg h h
      · have := Rat.mul_nonneg (show 0 ≤ -c by grind) (show 0 ≤ -c by grind); grind
    grind
  cases area
  · show rle _ _ _
    have hm := Rat.mul_nonneg (show 0 ≤ 2 * R + 1 by grind) hd
    have h1 : rle (-(2 * R)) s (2 * R * c) := by
      by_cases h : 0 < R
      · have := (rle_scale (t := 2 * R) (by grind)).2 (rle_unit hc)
        have e : 2 * R * -1 = -(2 * R) := by grind
        rwa [e] at this
      · have h0 : R = 0 := by grind
        exact rle_easy (by grind) (by rw [h0]; grind)
    have := rle_add hs h1 (rle_easy (s := s) (a := -1) (b := (2 * R + 1) * d) (by grind) hm)
    have e1 : -(2 * R) + -1 = -(2 * R) - 1 := by grind
    have e2 : 2 * R * c + (2 * R + 1) * d = 2 * R * c - (-(2 * R) - 1) * d := by grind
    rwa [e1, e2] at this
  · show hitB _ _ _ _ _
    unfold hitB
    rw [if_neg (by grind)]
    refine .inr (rle_easy ?_ ?_)
    · have := Rat.mul_nonneg (Rat.mul_nonneg (show 0 ≤ 2 * R + 1 by grind) (show 0 ≤ 2 * R + 1 by grind)) hd
      grind
    · have p1 := Rat.mul_nonneg (Rat.mul_nonneg hR hR) (show 0 ≤ s - c * c by grind)
      have p2 := Rat.mul_nonneg hR hs
      grind
/-- the greatest of low .. low + n that a downward closed test holds for -/
def best (p : Int → Bool) (low : Int) : Nat → Int
  | 0 => low
  | n + 1 => if p (low + (n + 1 : Nat)) then low + (n + 1 : Nat) else best p low n
theorem best_ge (p : Int → Bool) (low : Int) : ∀ n, low ≤ best p low n ∧ best p low n ≤ low + n
  | 0 => by simp [best]
  | n + 1 => by
    have := best_ge p low n
    simp only [best]; split <;> omega
theorem best_iff {p : Int → Bool} {low : Int} (hl : p low = true) (hp : ∀ i k, i ≤ k → p k = true → p i = true) : ∀ (n : Nat) (k : Int), low ≤ k → k ≤ low + n → (p k = true ↔ k ≤ best p low n)
  | 0, k, h1, h2 => by
    have : k = low := by omega
    subst this
    simp [best, hl]
  | n + 1, k, h1, h2 => by
    simp only [best]
    split
    · rename_i h
      exact ⟨fun _ => h2, fun _ => hp _ _ h2 h⟩
    · rename_i h
      by_cases hk : k = low + (n + 1 : Nat)
      · subst hk
        have := best_ge p low n
        exact ⟨fun h' => absurd h' h, fun h' => by omega⟩
      · exact best_iff hl hp n k h1 (by omega)
/-- the pixel of a coordinate -/
def pix (area : Bool) (R : Nat) (c d s : Rat) : Int := best (fun k => decide (hit area R c d s (2 * k - 1 : Int))) (-(R : Int)) (2 * R)
theorem pix_iff {area : Bool} {R : Nat} {c d s : Rat} (hc : c * c ≤ s) (hd : 0 ≤ d) {k : Int} (h1 : -(R : Int) ≤ k) (h2 : k ≤ R) : hit area R c d s ((2 * k - 1 : Int) : Rat) ↔ k ≤ pix area R c d s := by
  have hs : 0 ≤ s := by
    have : 0 ≤ c * c := by
      rcases Rat.le_total (a := 0) (b := c) with h | h
      · exact Rat.mul_nonneg h h
      · have := Rat.mul_nonneg (show 0 ≤ -c by grind) (show 0 ≤ -c by grind); grind
    grind
  have := best_iff (p := fun k => decide (hit area R c d s (2 * k - 1 : Int))) (low := -(R : Int)) ?_ ?_ (2 * R) k h1 (by omega)
  · rw [decide_eq_true_iff] at this; exact this
  · rw [decide_eq_true_iff]
    have := hit_least (area := area) (R := (R : Rat)) Rat.natCast_nonneg hc hd
    have e : ((2 * -(R : Int) - 1 : Int) : Rat) = -(2 * (R : Rat)) - 1 := by
      rw [Rat.intCast_sub, Rat.intCast_mul, Rat.intCast_neg]; simp only [Rat.intCast_natCast]; grind
    rw [e]; exact this
  · intro i k h h'
    rw [decide_eq_true_iff] at *
    exact hit_anti hs hd h' (Rat.intCast_le_intCast.2 (by omega))
theorem pix_ge {area : Bool} {R : Nat} {c d s : Rat} : -(R : Int) ≤ pix area R c d s ∧ pix area R c d s ≤ R := by
  have := best_ge (fun k => decide (hit area R c d s (2 * k - 1 : Int))) (-(R : Int)) (2 * R)
  unfold pix; omega
end Go.Ne

/-
  DIRECTIONS ON A NET: the program's test and the law's test are the same; vectors of three numbers. Own work.
-/
namespace Go.Ne

abbrev V3 := Rat × Rat × Rat
def dot3 (a b : V3) : Rat := a.1 * b.1 + a.2.1 * b.2.1 + a.2.2 * b.2.2
def sc3 (a : V3) (k : Rat) : V3 := (a.1 * k, a.2.1 * k, a.2.2 * k)
def add3 (a b : V3) : V3 := (a.1 + b.1, a.2.1 + b.2.1, a.2.2 + b.2.2)
def crs3 (a b : V3) : V3 := (a.2.1 * b.2.2 - a.2.2 * b.2.1, a.2.2 * b.1 - a.1 * b.2.2, a.1 * b.2.1 - a.2.1 * b.1)
def zer3 (a : V3) : Bool := decide (a = (0, 0, 0))
def low3 (v : V3) : V3 := if 0 < v.2.2 then sc3 v (-1) else v
theorem sq_nonneg (x : Rat) : 0 ≤ x * x := by
  rcases Rat.le_total (a := 0) (b := x) with h | h
  · exact Rat.mul_nonneg h h
  · have := Rat.mul_nonneg (show 0 ≤ -x by grind) (show 0 ≤ -x by grind); grind
theorem dot_ge1 (v : V3) : v.1 * v.1 ≤ dot3 v v := by
  have := sq_nonneg v.2.1; have := sq_nonneg v.2.2
  unfold dot3; grind
theorem dot_ge2 (v : V3) : v.2.1 * v.2.1 ≤ dot3 v v := by
  have := sq_nonneg v.1; have := sq_nonneg v.2.2
  unfold dot3; grind
theorem low_z (v : V3) : 0 ≤ -(low3 v).2.2 := by
  unfold low3 sc3; split
  · show 0 ≤ -(v.2.2 * -1); grind
  · rename_i h; have := Rat.not_lt.1 h; grind
/-- the program's test: for a half of h -/
def reachP (area : Bool) (R x z s h : Rat) : Bool :=
  if area then
    (if 0 ≤ h then decide (0 ≤ x * R) && decide (rle (-(h * h * z)) s (x * R * (x * R) - h * h * s)) else decide (0 ≤ x * R) || decide (rle (-(-(h * h * z))) s (-(x * R * (x * R) - h * h * s))))
  else decide (rle h s (x * R + h * z))
theorem reachP_hit {area : Bool} {R x z s h : Rat} (hR : 0 < R) : reachP area R x z s h = decide (hit area R x (-z) s (2 * h)) := by
  have key : 0 ≤ x * R ↔ 0 ≤ x := by
    constructor
    · intro h
      refine Rat.not_lt.1 fun h' => ?_
      have := Rat.mul_pos (show 0 < -x by grind) hR
      grind
    · exact fun h => Rat.mul_nonneg h (Rat.le_of_lt hR)
  have key2 : 0 ≤ 2 * h ↔ 0 ≤ h := by constructor <;> intro _ <;> grind
  cases area
  · show decide (rle _ _ _) = decide (rle _ _ _)
    refine decide_eq_decide.2 ?_
    rw [show 2 * R * x - 2 * h * -z = 2 * (x * R + h * z) by grind]
    exact (rle_scale (by decide)).symm
  · show _ = decide (hitB _ _ _ _ _)
    unfold reachP hitB
    simp only [if_true, key2]
    have e1 : 2 * h * (2 * h) * -z = 4 * -(h * h * z) := by grind
    have e2 : 2 * R * x * (2 * R * x) - 2 * h * (2 * h) * s = 4 * (x * R * (x * R) - h * h * s) := by grind
    have e3 : -(4 * -(h * h * z)) = 4 * -(-(h * h * z)) := by grind
    have e4 : -(4 * (x * R * (x * R) - h * h * s)) = 4 * -(x * R * (x * R) - h * h * s) := by grind
    by_cases h0 : 0 ≤ h
    · have := rle_scale (a := -(h * h * z)) (s := s) (b := x * R * (x * R) - h * h * s) (t := 4) (by decide)
      rw [if_pos h0, Bool.eq_iff_iff]
      simp only [Bool.and_eq_true, decide_eq_true_eq]
      rw [if_pos h0, e1, e2, key, this]
    · have := rle_scale (a := -(-(h * h * z))) (s := s) (b := -(x * R * (x * R) - h * h * s)) (t := 4) (by decide)
      rw [if_neg h0, Bool.eq_iff_iff]
      simp only [Bool.or_eq_true, decide_eq_true_eq]
      rw [if_neg h0, e1, e2, e3, e4, key, this]
/-- the law's words for a multiple of a root -/
def atM (a s b : Rat) : Bool := if a ≤ 0 ∧ 0 ≤ b then true else if 0 ≤ a ∧ b < 0 then false else if 0 < a then decide (a * a * s ≤ b * b) else decide (b * b ≤ a * a * s)
theorem atM_rle {a s b : Rat} : atM a s b = decide (rle a s b) := by
  unfold atM
  by_cases h1 : a ≤ 0 ∧ 0 ≤ b
  · rw [if_pos h1, decide_eq_true (rle_easy h1.1 h1.2)]
  · rw [if_neg h1]
    by_cases h2 : 0 ≤ a ∧ b < 0
    · rw [if_pos h2, decide_eq_false]
      intro h
      have := ((rle_pos h2.1).1 h).1
      grind
    · rw [if_neg h2]
      by_cases h3 : 0 < a
      · rw [if_pos h3]
        refine decide_eq_decide.2 ?_
        rw [rle_pos (Rat.le_of_lt h3)]
        exact ⟨fun h => ⟨by grind, h⟩, fun h => h.2⟩
      · rw [if_neg h3]
        refine decide_eq_decide.2 ?_
        have ha : a < 0 := by grind
        rw [rle_neg ha]
        exact ⟨.inr, fun h => h.resolve_left (by grind)⟩
/-- the law's test -/
def reachL (area : Bool) (R c d s m : Rat) : Bool :=
  if area then
    (if m ≤ 0 ∧ 0 ≤ 2 * R * c then true else if 0 ≤ m ∧ 2 * R * c < 0 then false
      else if 0 < m then decide (rle (m * m * d) s (2 * R * c * (2 * R * c) - m * m * s)) else decide (rle (-(m * m * d)) s (-(2 * R * c * (2 * R * c) - m * m * s))))
  else decide (rle m s (2 * R * c - m * d))
theorem reachL_hit {area : Bool} {R c d s m : Rat} (hR : 0 < R) : reachL area R c d s m = decide (hit area R c d s m) := by
  have key : 0 ≤ 2 * R * c ↔ 0 ≤ c := by
    constructor
    · intro h
      refine Rat.not_lt.1 fun h' => ?_
      have := Rat.mul_pos (show 0 < 2 * R by grind) (show 0 < -c by grind)
      grind
    · exact fun h => Rat.mul_nonneg (by grind) h
  have key' : 2 * R * c < 0 ↔ c < 0 := by rw [← Rat.not_le, ← Rat.not_le, key]
  cases area
  · rfl
  · show _ = decide (hitB _ _ _ _ _)
    unfold reachL hitB
    simp only [if_true, key, key']
    by_cases hc : 0 ≤ c
    · have hc' : ¬c < 0 := Rat.not_lt.2 hc
      by_cases hm : m ≤ 0
      · rw [if_pos ⟨hm, hc⟩]
        refine (decide_eq_true ?_).symm
        by_cases h0 : 0 ≤ m
        · have : m = 0 := by grind
          subst this
          rw [if_pos h0]
          refine ⟨hc, rle_easy (by grind) ?_⟩
          have := sq_nonneg (2 * R * c)
          grind
        · rw [if_neg h0]; exact .inl hc
      · rw [if_neg (fun h => hm h.1), if_neg (fun h => hc' h.2), if_pos (show 0 < m by grind)]
        refine decide_eq_decide.2 ?_
        rw [if_pos (show 0 ≤ m by grind)]
        exact ⟨fun h => ⟨hc, h⟩, fun h => h.2⟩
    · have hc' : c < 0 := Rat.not_le.1 hc
      by_cases hm : 0 ≤ m
      · rw [if_neg (fun h => hc h.2), if_pos ⟨hm, hc'⟩]
        refine (decide_eq_false ?_).symm
        rw [if_pos hm]
        exact fun h => hc h.1
      · rw [if_neg (fun h => hc h.2), if_neg (fun h => hm h.1), if_neg (show ¬0 < m by grind)]
        refine decide_eq_decide.2 ?_
        rw [if_neg hm]
        exact ⟨.inr, fun h => h.resolve_left hc⟩
/-- the pixel of a direction -/
def pixV (area : Bool) (R : Nat) (v : V3) : Int × Int :=
  (pix area R (low3 v).1 (-(low3 v).2.2) (dot3 (low3 v) (low3 v)), pix area R (low3 v).2.1 (-(low3 v).2.2) (dot3 (low3 v) (low3 v)))
end Go.Ne
