/-
  slices.Repeat of ints, in the plain walk (as ar/Rq for numbers as texts). Own work.
-/
import Derived.Test.YtijkmdpdedagdaaGreatDoorEd
import Derived.Test.YtijkmdpdedagdaaGreatDoorEb
import Derived.Test.YtijkmdpdedagdaaGreatDoorSa
import Derived.Shelf.RegionOpenPlain
import Derived.Deep.RegionHeld3
import Derived.Deep.LoopGhost
import Derived.OwnWalk
set_option linter.unusedVariables false
set_option linter.unusedSimpArgs false
namespace Go.Pi
open Go Go.RowKit
/-- an own row of one-celled things as a result -/
theorem res_own1 {P : Program} {S : Nat → Nat → Prop} {w w' : World} {e n : Nat} {v : Value} {ds : List D} {xs : List Value} (hc : P.cellsOf e = 1) (hS : ∀ b j, S b j → b < w.heap.size) (h : w'.ownsRow w.heap.size e 1 v n xs)
    (hr : Reps S w' ds xs) (h1 : ∀ d ∈ ds, d.one = true) : Res P S w w' (.own true e n ds) v := by
  have hl := h.1
  rcases h.2 with ⟨rfl, h0⟩ | ⟨b, cap, cur, rfl, hbg, hg, hn, hcp, hcs, htk⟩
  · subst h0
    refine ⟨none, fun _ h => (by cases h), .inl ⟨rfl, rfl, rfl, ?_⟩⟩
    exact List.length_eq_zero_iff.1 (by rw [hr.1, hl])
  · refine ⟨some b, fun b' h => ?_, .inr ⟨b, cap, cur, rfl, rfl, hg, hn, hcp, ?_, ?_, ?_, h1, ?_, fun h => (by cases h)⟩⟩
    · cases h; exact ⟨hbg, (Array.getElem?_eq_some_iff.1 hg).1⟩
    · rw [hc]; omega
    · rw [hc, hr.1, hl]
    · rw [hc, htk]
      exact ⟨hr.1, fun i d v hd hv => (hr.2 i d v hd hv).mono (fun _ _ z => .inl z) (fun _ _ _ => rfl)⟩
    · intro j hj
      rcases hj with hj | ⟨_, _, hj⟩
      · exact absurd (hS _ _ hj) (by omega)
      · exact absurd (hj rfl).1 (by simp)
end Go.Pi
namespace Go.Proofs
open Go Go.Pi Go.RowKit Go.Shelf Go.Tp

set_option maxRecDepth 100000 in
set_option maxHeartbeats 4000000 in
theorem Tryz.irepeat (n k : Nat) (ds : List D) (hds : ds.length = n * 1) (hn : n ≤ 1000000) (hk : k ≤ 1000) : Con Tryz.prog Tryz.L 59 [.sl n ds, .int .i64 k] (.own true 3 (k * n) (List.replicate k ds).flatten) := by
  have mixed : Tryz.prog.follows .mixedOrders = true := by kernel_rfl
  have t0 := Tryz.underlying26; have a0 := Tryz.isAgg26; have z0 := Tryz.sizeOf26; have v0 := Tryz.zeroValue26; have u0 := run_underlying Tryz.underlying26
  have t3 := Tryz.underlying4; have a3 := Tryz.isAgg4; have z3 := Tryz.sizeOf4; have v3 := Tryz.zeroValue4; have u3 := run_underlying Tryz.underlying4
  have t4 := Tryz.underlying3; have a4 := Tryz.isAgg3; have z4 := Tryz.sizeOf3; have v4 := Tryz.zeroValue3; have u4 := run_underlying Tryz.underlying3
  have t5 := Tryz.underlying117; have a5 := Tryz.isAgg117; have z5 := Tryz.sizeOf117; have v5 := Tryz.zeroValue117; have u5 := run_underlying Tryz.underlying117
  have hinf : (Tryz.prog.info? 3).map (fun i => (i.zero, i.size, i.bytes)) = some (some (.int .i64 0), 1, 8) := by kernel_rfl
  obtain ⟨ti, hti, htz⟩ := Option.map_eq_some_iff.1 hinf
  simp only [Prod.mk.injEq] at htz
  have hnk : n * k ≤ 1000000 * 1000 := Nat.mul_le_mul hn hk
  obtain ⟨N, hN⟩ : ∃ N, N = n * k := ⟨_, rfl⟩
  rw [← hN] at hnk
  rw [show k * n = N by rw [hN, Nat.mul_comm]]
  refine ⟨⟨by kernel_rfl, rfl⟩, fun S W vs hS hL hrep => ?_⟩
  obtain ⟨va, r1, rfl, hra, t1'⟩ := hrep.uncons
  obtain ⟨vb, r2, rfl, hrb, t2'⟩ := t1'.uncons
  obtain rfl : r2 = [] := List.length_eq_zero_iff.1 t2'.1.symm
  obtain rfl : vb = .int .i64 k := by cases hrb; rfl
  clear t1' t2' hrep hrb
  have hmul := Tryz.bits_Mul n k (by omega) (by omega) W
  rw [← hN, Nat.div_eq_of_lt (by omega), Nat.mod_eq_of_lt (by omega)] at hmul
  have w1 : IntKind.u64.wrap (n : Int) = (n : Int) := by rw [IntKind.wrap_u64]; omega
  have w2 : IntKind.u64.wrap (k : Int) = (k : Int) := by rw [IntKind.wrap_u64]; omega
  have w3 : IntKind.i64.wrap (N : Int) = (N : Int) := by rw [IntKind.wrap_i64]; omega
  have k0 : ¬((k : Int) < 0) := by omega
  have hform : ∃ ad cap, va = .slice ad n cap := by cases hra <;> exact ⟨_, _, rfl⟩
  obtain ⟨ad, cap, rfl⟩ := hform
  have HN : Hid (N = n * k) := hN
  clear hN
  have hsz : (Tryz.prog.info? 3).map (·.size) = some 1 := by rw [hti, Option.map_some, htz.2.1]
  have hmk := fun (w : World) => run_make_full (P := Tryz.prog) w w.heap.size 26 3 ti _ 1 Tryz.underlying26 hti htz.1 htz.2.1 .i64 .i64 N (by rw [htz.2.2]; omega) (by unfold maxLen; omega) (Nat.le_refl _)
  obtain ⟨W1, hrun, ho1, hg1⟩ := hmk W
  have hcl := ho1.1
  generalize (madeCells (Value.int .i64 0).cells (N * 1)).toList = xs at ho1 hcl
  show Calls _ _ #[.slice ad n cap, .int .i64 k] _ _
  clear hinf hmk
  by_cases hz : N = 0
  · subst hz
    have e0 : n = 0 ∨ k = 0 := by have := HN.out; rcases Nat.eq_zero_or_pos n with h | h; exact .inl h; rcases Nat.eq_zero_or_pos k with h2 | h2; exact .inr h2; have := Nat.mul_pos h h2; omega
    rw [show ((0 : Nat) : Int) = 0 from rfl] at hrun hmul
    have hcp := fun ty => run_copy_zero W1 26 26 ty 3 1 (some ⟨W.heap.size, 0, none⟩) ad 0 0 n cap Tryz.underlying26 hsz (Nat.min_zero n)
    have hB := Below.refl W.heap.size W
    have hb1 : Below W.heap.size W W1 := hB.grown hg1 (Nat.le_refl _) (fun k hk => by cases hk)
    go_enter Tryz.func59, Tryz.ntmps59
    go_wp2_with (first
      | (go_at_call 77; refine Calls.mono hmul ?_; rintro e W9 ⟨rfl, rfl⟩)
      | (at_builtin; refine wpList_copy _ rfl _ _ 26 26 rfl _ _ rfl rfl (hcp _) ?_))
    go_loopg [8] 0 (fun gg s8 wr => s8 = .int .i64 0 ∧ wr = W1)
    case atStart => exact ⟨rfl, rfl⟩
    case round =>
      obtain ⟨rfl, rfl⟩ := hrel
      go_wp2
      go_ret
      refine ⟨_, rfl, hb1, ?_⟩
      have e1 : (List.replicate k ds).flatten = [] := by
        rcases e0 with h | h
        · rw [h] at hds
          have : ds = [] := List.length_eq_zero_iff.1 (by omega)
          rw [this]
          apply List.length_eq_zero_iff.1
          rw [repl_len]; simp
        · rw [h]; rfl
      rw [e1]
      refine res_own1 (by kernel_rfl) hS ho1 ?_ (fun d hd => by cases hd)
      obtain rfl : xs = [] := List.length_eq_zero_iff.1 (by omega)
      exact Reps.nil
  · have hn1 : 0 < n := by rcases Nat.eq_zero_or_pos n with h | h; · exact absurd (by rw [HN.out, h]; simp) hz
                           · exact h
    have hk1 : 0 < k := by rcases Nat.eq_zero_or_pos k with h | h; · exact absurd (by rw [HN.out, h]; simp) hz
                           · exact h
    have hnN : n ≤ N := by rw [HN.out]; exact Nat.le_mul_of_pos_right n hk1
    obtain ⟨b, off, ws, rfl, hone, hrow, hreps⟩ : ∃ b off ws, ad = some ⟨b, off, none⟩ ∧ (∀ d ∈ ds, d.one = true) ∧ Row S W b off ws ∧ Reps S W ds ws := by
      cases hra with
      | sl0 a cap hc => simp at hn1
      | slN => simp at hn1
      | sl n ds b off cap vs hl h1 hn hc hr h => exact ⟨b, off, vs, rfl, h1, hr, hl, h⟩
    have hwl : ws.length = n * 1 := by rw [← hreps.1, hds]
    have hw1 : ∀ u ∈ ws, u.oneCell' = true := fun u hu => by
      obtain ⟨i, hi⟩ := List.getElem?_of_mem hu
      obtain ⟨d, hd⟩ : ∃ d, ds[i]? = some d := by
        have := (List.getElem?_eq_some_iff.1 hi).1
        exact ⟨_, List.getElem?_eq_getElem (by rw [hreps.1]; exact this)⟩
      exact (hreps.2 i d u hd hi).oneCell (hone d (List.mem_of_getElem? hd))
    have hrk := Reps.repl hreps k
    have hfl : ((List.replicate k ws).flatten).length = N * 1 := by rw [repl_len, hwl, HN.out, ← Nat.mul_assoc, Nat.mul_comm k n]
    have hper : ∀ q d, q ≤ k → n * q + d ≤ N → ((List.replicate k ws).flatten).take ((n * q + d) * 1) = ((List.replicate k ws).flatten).take (n * q * 1) ++ ((List.replicate k ws).flatten).take (d * 1) := fun q d hq hd => by
      rw [Nat.add_mul]
      refine repl_take hq (by rw [hwl, ← Nat.mul_assoc, Nat.mul_comm n q]) ?_
      rw [hwl, ← Nat.add_mul, ← Nat.mul_assoc, Nat.mul_comm k n, ← HN.out]
      exact Nat.mul_le_mul_right _ hd
    have hfn : ((List.replicate k ws).flatten).take (n * 1) = ws := by
      obtain ⟨j, rfl⟩ : ∃ j, k = j + 1 := ⟨k - 1, by omega⟩
      rw [List.replicate_succ, List.flatten_cons, ← hwl, List.take_left']
      rfl
    have hf1 : ∀ u ∈ (List.replicate k ws).flatten, u.oneCell' = true := fun u hu => by
      obtain ⟨l, hl, hu⟩ := List.mem_flatten.1 hu
      rw [(List.mem_replicate.1 hl).2] at hu
      exact hw1 u hu
    generalize (List.replicate k ws).flatten = full at *
    have hB := Below.refl W.heap.size W
    have hb1 : Below W.heap.size W W1 := hB.grown hg1 (Nat.le_refl _) (fun k hk => by cases hk)
    obtain ⟨W2, hcp, ho2, hg2⟩ := run_copy_own W1 26 26 3 3 W.heap.size 1 W.heap.size N N 0 N N n ⟨b, off, none⟩ n cap xs ws Tryz.underlying26 hsz ho1
      (Nat.min_eq_left hnN) (by omega) hwl (fun j v hj => by
        have hc := (hrow j v hj)
        rw [show (⟨b, off, none⟩ : Addr).add j = ⟨b, off + j, none⟩ by unfold Addr.add; split <;> simp_all]
        exact (hb1.cell (p := ⟨b, off + j, none⟩) (hS _ _ hc.1)).trans hc.2) hw1
    rw [show 0 * 1 = 0 from rfl] at hcp ho2
    rw [List.take_zero, List.nil_append] at ho2
    have hb2 : Below W.heap.size W W2 := hb1.grown hg2 (by have := hg1.size; omega) (fun k hk => by cases hk; exact Nat.le_refl _)
    have HS : Hid (∀ (b j : Nat), S b j → b < W.heap.size) := hS
    have HH : Hid (Reps S W (List.replicate k ds).flatten full) := hrk
    have HP : Hid (full.length = N * 1 ∧ full.take (n * 1) = ws ∧ (∀ u ∈ full, u.oneCell' = true) ∧ (∀ q d, q ≤ k → n * q + d ≤ N → full.take ((n * q + d) * 1) = full.take (n * q * 1) ++ full.take (d * 1)) ∧ ∀ d ∈ (List.replicate k ds).flatten, d.one = true) := ⟨hfl, hfn, hf1, hper, fun d hd => by
      obtain ⟨l, hl, hu⟩ := List.mem_flatten.1 hd
      rw [(List.mem_replicate.1 hl).2] at hu
      exact hone d hu⟩
    clear hrk hfl hfn hf1 hper hw1 hone hreps hS hrow hra hds hB hb1 ho1 hg1 hg2 hcl
    have n0 : ((0 : Int) < (N : Int)) := by omega
    go_enter Tryz.func59, Tryz.ntmps59
    go_wp2_with (first
      | (go_at_call 77; refine Calls.mono hmul ?_; rintro e W9 ⟨rfl, hw⟩; obtain rfl := hw.symm; clear hw)
      | (at_builtin; refine wpList_copy _ rfl _ _ 26 26 rfl _ _ rfl rfl hcp ?_))
    go_loopg [8] N (fun gg s8 wr => ∃ m : Nat, s8 = .int .i64 m ∧ m ≤ N ∧ N ≤ gg + m ∧ 0 < m ∧ Hid (m = N ∨ ∃ q, q ≤ k ∧ m = n * q) ∧ ∃ ys, Hid (ys.take (m * 1) = full.take (m * 1)) ∧ wr.ownsRow W.heap.size 3 1 (.slice (some ⟨W.heap.size, 0, none⟩) N N) N ys ∧ Below W.heap.size W wr)
    case atStart =>
      refine ⟨n, rfl, hnN, by omega, hn1, .inr ⟨1, hk1, by omega⟩, _, ?_, ho2, hb2⟩
      rw [HP.out.2.1, List.take_append_of_le_length (by omega), ← hwl, List.take_length]; exact rfl
    case round =>
      clear ho2 hb2 hcp
      obtain ⟨m, rfl, hmN, hgg, hm0, HQ, ys, HY, hown, hbw⟩ := hrel
      by_cases hlt : m < N
      · have i0 : (0 : Int) ≤ (m : Int) := Int.natCast_nonneg _
        have i1 : (m : Int) < (N : Int) := by omega
        have i2 : (m : Int) ≤ (N : Int) := by omega
        have dd : ∃ d, d = Nat.min m (N - m) ∧ 0 < d ∧ d ≤ m ∧ m + d ≤ N ∧ (m + d = N ∨ d = m) := by
          by_cases h : m ≤ N - m
          · exact ⟨m, (Nat.min_eq_left h).symm, hm0, Nat.le_refl _, by omega, .inr rfl⟩
          · exact ⟨N - m, (Nat.min_eq_right (by omega)).symm, by omega, by omega, by omega, .inl (by omega)⟩
        obtain ⟨d, hd1, hd2, hd3, hd4, hd5⟩ := dd
        have hyl := hown.1
        have hyd : ys.take (d * 1) = full.take (d * 1) := by
          have := congrArg (List.take (d * 1)) HY.out
          rwa [List.take_take, List.take_take, Nat.min_eq_left (by omega)] at this
        obtain ⟨wc, hcp, hoc, hgc⟩ := run_copy_own wr.drew 26 26 3 3 W.heap.size 1 W.heap.size N N m (N - m) (N - m) d ⟨W.heap.size, 0, none⟩ m N ys (full.take (d * 1)) Tryz.underlying26 hsz hown.drew
          hd1.symm hd4 (by rw [List.length_take, HP.out.1]; omega) (fun j v hj => by
            have hj2 : j < d * 1 := by
              have := (List.getElem?_eq_some_iff.1 hj).1
              rw [List.length_take] at this; omega
            rw [← hyd, List.getElem?_take, if_pos hj2] at hj
            rw [show (⟨W.heap.size, 0, none⟩ : Addr).add j = ⟨W.heap.size, j, none⟩ by unfold Addr.add; split <;> simp_all]
            rw [hown.drew.cellAt j (by omega)]
            exact hj) (fun u hu => HP.out.2.2.1 u (List.mem_of_mem_take hu))
        have hbd : Below W.heap.size W wr.drew := hbw.grown (gr_drew (gr_self wr (r := none))) hbw.size (fun k hk => by cases hk)
        have hbc : Below W.heap.size W wc := hbd.grown hgc (by have := hbd.size; omega) (fun k hk => by cases hk; exact Nat.le_refl _)
        have HC : Hid ((ys.take (m * 1) ++ full.take (d * 1) ++ ys.drop (m * 1 + d * 1)).take ((m + d) * 1) = full.take ((m + d) * 1)) := by
          show _ = _
          have hl1 : (ys.take (m * 1) ++ full.take (d * 1)).length = (m + d) * 1 := by rw [List.length_append, List.length_take, List.length_take, HP.out.1]; omega
          rw [List.take_left' hl1, HY.out]
          rcases HQ.out with h | ⟨q, hq1, rfl⟩
          · omega
          · exact (HP.out.2.2.2.1 q d hq1 hd4).symm
        have HQ2 : Hid (m + d = N ∨ ∃ q, q ≤ k ∧ m + d = n * q) := by
          rcases hd5 with h | h
          · exact .inl h
          · rcases HQ.out with h2 | ⟨q, hq1, h2⟩
            · omega
            · refine .inr ⟨2 * q, ?_, by rw [h, h2, Nat.mul_left_comm, Nat.two_mul]⟩
              have := HN.out
              have h3 : n * (2 * q) ≤ n * k := by rw [Nat.mul_left_comm, Nat.two_mul, ← h2, ← this]; omega
              exact Nat.le_of_mul_le_mul_left h3 hn1
        clear hown hbw HY HQ hyd hd1 hd5 hyl
        go_wp2_with fail
        rw [Nat.mul_one m] at hcp
        have e9 : (if N = m then some (⟨W.heap.size, 0, none⟩ : Addr) else some ⟨W.heap.size, m, none⟩) = some ⟨W.heap.size, m, none⟩ := if_neg (by omega)
        rw [← e9] at hcp
        clear e9
        go_region_held3 (fun w' => True) (trivial) ((refine step_copy (by rfl) _ _ 26 26 (by rfl) _ _ (by rfl) (by rfl) hcp ?_))
        go_wp2
        go_roundg (N - (m + d))
        case measure => omega
        case rel => exact ⟨m + d, by first | go_num | (rw [show IntKind.i64.wrap ((m : Int) + d) = ((m + d : Nat) : Int) by rw [IntKind.wrap_i64]; omega]) | (congr 1; omega), hd4, by omega, by omega, HQ2, _, HC, hoc, hbc⟩
      · have hmm : m = N := by omega
        subst hmm
        go_wp2
        go_ret
        have hyl := hown.1
        have e : ys = full := by
          have := HY.out
          rwa [List.take_of_length_le (by omega), List.take_of_length_le (by rw [HP.out.1]; exact Nat.le_refl _)] at this
        subst e
        refine ⟨_, rfl, hbw, ?_⟩
        exact res_own1 (by kernel_rfl) HS.out hown ⟨HH.out.1, fun i d v hd hv => (HH.out.2 i d v hd hv).mono (fun _ _ z => z) (fun b o z => hbw.cell (p := ⟨b, o, none⟩) (HS.out b o z))⟩ HP.out.2.2.2.2
theorem Tryz.irepeat1 (k : Nat) (hk : k ≤ 1000) : Con Tryz.prog Tryz.L 59 [.sl 1 [.int .i64 (-1)], .int .i64 k] (.own true 3 k (ints .i64 (List.replicate k (-1)))) := by
  have h := Tryz.irepeat 1 k [.int .i64 (-1)] rfl (by omega) hk
  have e : (List.replicate k [D.int .i64 (-1)]).flatten = ints .i64 (List.replicate k (-1)) := by
    clear h hk
    induction k with
    | zero => rfl
    | succ k ih => rw [List.replicate_succ, List.flatten_cons, ih]; rfl
  rw [Nat.mul_one, e] at h
  exact h
end Go.Proofs
