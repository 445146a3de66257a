/-
 A SLICE COMPARED WITH nil, before a branch: both ways are open for an empty slice. Own work.
-/
import Derived.Test.YtkfmblmamoofjaaGreatDoorPi
import Derived.OwnWalkIn
set_option linter.unusedVariables false
set_option linter.unusedSimpArgs false
namespace Go.Pi
open Go Go.RowKit

variable {P : Program} {L : World → Prop} {n : Nz} {S0 S : Nat → Nat → Prop} {w0 w : World} {O : Nat → Option Nat} {g : G} {tm : Array Value}

theorem run_equal_slice {t e : TypeId} (hu : P.underlying t = some (.slice e)) (a : Option Addr) (m c : Nat) : (Op.equal t (.slice a m c) (.slice none 0 0)).run P w = .ok a.isNone w := by
 unfold Op.equal
 show (Op.equalIn (9999 + 1) t (.slice a m c) (.slice none 0 0)).run P w = _
 unfold Op.equalIn
 cases a <;> simp [run_underlying hu]

/-- slot x is a slice; t2 says whether it is nil -/
def nilT (x t2 : Nat) (out : List Nat) : PT where
 f := fun M E => ∃ m cs, (lk E x).slv = some (m, cs) ∧ ∀ b : Bool, (b = true → m = 0) → M .nrm (sets (keepE out E) [(t2, .bool b)])
 mono := fun hM ⟨m, cs, h1, h2⟩ => ⟨m, cs, h1, fun b hb => hM _ _ (h2 b hb)⟩

theorem nilT_ok {rid x t1 t2 : Nat} {out : List Nat} {ops : Array Oper} {o1 o2 : Oper} {ty ty2 e : TypeId} (hops : ops.toList = [o1, o2])
  (h1 : o1.op = .move (.tmp x)) (h1d : o1.dst = some t1) (h1g : o1.guard = none) (h2 : o2.op = .binOp .eql ty (.tmp t1) (.const (.slice none 0 0)) ty2) (h2d : o2.dst = some t2) (h2g : o2.guard = none)
  (hu : P.underlying ty = some (.slice e)) (hx : x < GB) (hout : out.all (fun t => t != t1 && t != t2) = true) (h12 : t1 ≠ t2) :
  CusOk P L (.region rid ops false) [t1, t2] (nilT x t2 out) := by
 intro nn rd okf S0 w0 n0 df0 M Qc E tm w n df _ hws hL0 had hna hg hT hQ
 obtain ⟨m, cs, hsl, hM⟩ := hT
 have ht1 := had.1 t1 (hws t1 (by simp))
 have ht2 := had.1 t2 (hws t2 (by simp))
 have hno : ∀ t, t ∈ out → t ≠ t1 ∧ t ≠ t2 := fun t ht => by have := List.all_eq_true.1 hout t ht; simpa using this
 obtain ⟨a, cap, hv, hm⟩ : ∃ a cap, tm.getD x undef = .slice a m cap ∧ (a.isNone = true → m = 0) := by
  obtain ⟨S, O, gv, hI⟩ := id hg
  cases hq : lk E x <;> rw [hq] at hsl <;> simp only [D.slv] at hsl <;> cases hsl
  ·have hr := hI.rep (t := x) (by rw [hq]; rfl)
   rw [hq] at hr
   generalize tm.getD x undef = v at hr
   cases hr with
   | sl0 a cap hc => exact ⟨a, cap, rfl, fun _ => rfl⟩
   | slN => exact ⟨none, 0, rfl, fun _ => rfl⟩
   | sl m ds b off cap vs hl h1 hn hc hr h => exact ⟨_, cap, rfl, fun h => by cases h⟩
  ·have hs := hI.slot x
   rw [hq] at hs
   simp only [SR, OwnR] at hs
   rw [tmOf_lt hx] at hs
   rcases hs with ⟨_, h2, h3, _⟩ | ⟨b, cap, arr, _, h2, _⟩
   ·subst h3; exact ⟨none, 0, h2, fun _ => rfl⟩
   ·exact ⟨_, cap, h2, fun h => by cases h⟩
 have hg1 := hg.keep (live := out)
 obtain ⟨S, O, gv, hI⟩ := id hg1
 have hun1 : lk (keepE out E) t1 = .un := by rw [lk_keepE, if_neg (fun h => (hno t1 h).1 rfl)]
 have hI1 := hI.touch (t := t1) (.slice a m cap) ht1.2 hun1 (fun t s h => by rw [keepE_noAlias out E t] at h; cases h)
 have hI2 := hI1.setPure (d := .bool a.isNone) (v := .bool a.isNone) (dst := t2) hI1.extRefl (fun _ _ z => z) (fun _ _ z => .inl z) (.bool _) ht2 (fun t s h => by rw [keepE_noAlias out E t] at h; cases h)
 have e1 : (execOp (rho tm) o1).run P w = .ok (.value (.slice a m cap)) w := by
  rw [exec_move (P := P) (w := w) (o := o1) (.inl h1) (rho tm)]
  simp only [rho, hv]
 have hgt : (tm.setIfInBounds t1 (.slice a m cap)).getD t1 undef = .slice a m cap := by
  have : t1 < tm.size := by rw [hI.size]; exact ht1.1
  simp [this]
 have e2 : (execOp (rho (tm.setIfInBounds t1 (.slice a m cap))) o2).run P w = .ok (.value (.bool a.isNone)) w := by
  have e3 : rho (tm.setIfInBounds t1 (.slice a m cap)) (.tmp t1) = .slice a m cap := hgt
  have e4 : rho (tm.setIfInBounds t1 (.slice a m cap)) (.const (.slice none 0 0)) = .slice none 0 0 := rfl
  simp [execOp, h2, e3, e4, eqGuard, binOp, run_equal_slice hu]
 refine wpIn_region_list ?_
 rw [hops]
 refine wpListIn_plain h1g fun K hK => ⟨fun _ _ => trivial, ?_⟩
 rw [Oper.semAt_plain _ _ _ (by rw [h1]; intro c h; cases h)]
 show Oper.uponIn _ _ _ _ _ _ _ ((execOp (rho tm) o1).run P w)
 rw [e1, Oper.uponIn_value, h1d]
 apply hK
 refine wpListIn_plain h2g fun K2 hK2 => ⟨fun _ _ => trivial, ?_⟩
 rw [Oper.semAt_plain _ _ _ (by rw [h2]; intro c h; cases h)]
 show Oper.uponIn _ _ _ _ _ _ _ ((execOp (rho (tm.setIfInBounds t1 (.slice a m cap))) o2).run P w)
 rw [e2, Oper.uponIn_value, h2d]
 apply hK2
 refine hQ .nrm _ _ w n df (hM a.isNone hm) ?_ had ⟨_, _, _, by rw [lk_sets]; exact hI2⟩
 intro t
 rw [lk_sets]
 show aliasOf (upd (lk (keepE out E)) t2 (.bool a.isNone) t) = none
 unfold upd
 split
 ·rfl
 ·exact keepE_noAlias out E t

theorem nilT_f {x t2 : Nat} {out : List Nat} {M : Ex → Env → Prop} {E : Env} : (nilT x t2 out).f M E = ∃ m cs, (lk E x).slv = some (m, cs) ∧ ∀ b : Bool, (b = true → m = 0) → M .nrm (sets (keepE out E) [(t2, .bool b)]) := rfl
end Go.Pi

/-
 A FUNCTION THAT WRITES IN A SLICE OF THE CALLER's OWN, its first argument. Own work.
-/
namespace Go.Pi
open Go Go.RowKit

variable {P : Program} {L : World → Prop} {n : Nz} {S0 S : Nat → Nat → Prop} {w0 w : World} {O : Nat → Option Nat} {g : G} {tm : Array Value}

/-- the world below a block -/
def trunc (w : World) (b : Nat) : World := { w with heap := w.heap.extract 0 b }
/-- THE CONTRACT of a function that may write in its first argument's memory -/
def ConW (P : Program) (L : World → Prop) (f : FuncId) (e k : Nat) (cs ds : List D) (m : Nat) (rs : List D) : Prop :=
 hasBody P f = true ∧ ∀ (w0 w : World) (b : Nat) (S : Nat → Nat → Prop) (v1 : Value) (vs : List Value), L w0 → Below w0.heap.size w0 w → w0.heap.size ≤ b → b < w.heap.size → (∀ c j, S c j → c < w.heap.size) →
  OwnR P S w (some b) (.own true e k cs) v1 → Reps S w ds vs →
  Calls P f (v1 :: vs).toArray w fun en w' => ∃ v, en = .returned v ∧ Below b (trunc w b) w' ∧ Rep (fun c j => (S c j ∧ c < b) ∨ (b ≤ c ∧ c < w'.heap.size)) w' (.sl m rs) v

/-- an owned slice, read as a plain one -/
def asSl (m : Nat) (cs : List D) (r : D) : Prop := r = .sl m cs ∨ ∃ wr e, r = .own wr e m cs

/-- what must hold at the end -/
def retW (rs : List RV) (m : Nat) (ms : List D) : Ex → Env → Prop := fun ex E => (match ex with | .exit _ => False | _ => True) ∧ ∃ r, resD E rs = some r ∧ asSl m ms r
def clearT (x y sz : Nat) (z : List D) (e : TypeId) (out : List Nat) : PT where
 f := fun M E => ∃ (k i : Nat) (cs : List D), lk E x = .own true e k cs ∧ lk E y = .int .i64 (i : Nat) ∧ i ≤ k ∧ cs.length = k * sz ∧ M .nrm (sets (keepE out E) [(x, .own true e k (cs.take (i * sz) ++ (List.replicate (k - i) z).flatten))])
 mono := fun hM ⟨k, i, cs, h1, h2, h3, h4, h5⟩ => ⟨k, i, cs, h1, h2, h3, h4, hM _ _ h5⟩

theorem getD_set_ne {tm : Array Value} {t u : Nat} (v : Value) (h : u ≠ t) : (tm.setIfInBounds t v).getD u undef = tm.getD u undef := by
 simp only [Array.getD_eq_getD_getElem?]
 rw [Array.getElem?_setIfInBounds, if_neg (fun e => h e.symm)]

def dfT (P : Program) (L : World → Prop) (p q r : Nat) (fc fh fd : FuncId) (e : TypeId) (out : List Nat) : PT where
 f := fun M E => ∃ (m k : Nat) (cs caps ms : List D) (wp wq : Bool), lk E p = .box wp [.sl m cs] ∧ lk E q = .box wq caps ∧ 0 < m ∧ (∀ d ∈ cs, d.simple = true) ∧
   Con P L fc [.sl m cs] (.own true e m cs) ∧ ConW P L fd e m cs [.clo fh [.pt caps]] k ms ∧ M .nrm (sets (keepE out E) [(r, .sl k ms)])
 mono := fun hM ⟨m, k, cs, caps, ms, wp, wq, h1, h2, h3, h4, h5, h6, h7⟩ => ⟨m, k, cs, caps, ms, wp, wq, h1, h2, h3, h4, h5, h6, hM _ _ h7⟩

theorem OwnR.simple {S' : Nat → Nat → Prop} {b k : Nat} {e : TypeId} {cs : List D} {v : Value} (h : OwnR P S w (some b) (.own true e k cs) v) (hs : ∀ d ∈ cs, d.simple = true) (hS' : ∀ j, ¬ S' b j) : OwnR P S' w (some b) (.own true e k cs) v := by
 simp only [OwnR] at h ⊢
 rcases h with ⟨h, _⟩ | ⟨b', cap, arr, h1, h2, h3, h4, h5, h6, h7, h8, h9, h10, h11⟩
 ·cases h
 ·cases h1
  exact .inr ⟨b, cap, arr, rfl, h2, h3, h4, h5, h6, h7, ⟨h8.1, fun i d v hd hv => (h8.2 i d v hd hv).ofSimple (hs d (List.mem_of_getElem? hd))⟩, h9, fun j hj => absurd hj (hS' j), fun hf => by cases hf⟩

end Go.Pi

/-
 THE LEMMAS OF EVALUATION UNDER A FEW NAMES. Own work.
-/
namespace Go.Pi
open Go

theorem evA : type_of% (And.intro @wC_seq <| And.intro @wC_reg <| And.intro @wC_cnd <| And.intro @wC_blk <| And.intro @wC_loop <| And.intro @wC_exit <| And.intro @wC_skip <| And.intro @wC_ret <| And.intro @wC_bad <| And.intro @GB_eq <| And.intro @zap_nil <| And.intro @zap_cons <| And.intro @lgF_g <| And.intro @lgF_b <| And.intro @sgOF_g <| And.intro @sgOF_b <| And.intro @sgPF_g <| And.intro @sgPF_b <| And.intro @wC_rfn <| And.intro @wC_cus <| And.intro @asgK_nrm <| And.intro @bodK_nrm <| And.intro @wE_nil <| And.intro @wE_none <| And.intro @wE_st <| And.intro @wE_some <| And.intro @regK_eq <| And.intro @seqK_nrm <| And.intro @seqK_exit <| And.intro @seqK_ret <| And.intro @blkK_nrm <| And.intro @blkK_exit <| And.intro @blkK_ret <| And.intro @loopK_nrm <| And.intro @loopK_exit <| And.intro @loopK_ret <| And.intro @cndF_t <| And.intro @cndF_f <| And.intro @cndF_p <| And.intro @grdF_t <| And.intro @grdF_f <| And.intro @grdF_s <| And.intro @grdF_pt <| And.intro @grdF_pf <| And.intro @ev_v <| And.intro @ev_k <| And.intro @ev_o <| And.intro @oev_al <| And.intro @oev_int <| And.intro @oev_sl <| And.intro @oev_str <| And.intro @oev_agg <| And.intro @oev_pt <| And.intro @oev_bool <| And.intro @lk_cons <| And.intro @lk_nil <| And.intro @st1_cons <| And.intro @st1_nil <| And.intro @keepE_cons <| @keepE_nil) := And.intro @wC_seq <| And.intro @wC_reg <| And.intro @wC_cnd <| And.intro @wC_blk <| And.intro @wC_loop <| And.intro @wC_exit <| And.intro @wC_skip <| And.intro @wC_ret <| And.intro @wC_bad <| And.intro @GB_eq <| And.intro @zap_nil <| And.intro @zap_cons <| And.intro @lgF_g <| And.intro @lgF_b <| And.intro @sgOF_g <| And.intro @sgOF_b <| And.intro @sgPF_g <| And.intro @sgPF_b <| And.intro @wC_rfn <| And.intro @wC_cus <| And.intro @asgK_nrm <| And.intro @bodK_nrm <| And.intro @wE_nil <| And.intro @wE_none <| And.intro @wE_st <| And.intro @wE_some <| And.intro @regK_eq <| And.intro @seqK_nrm <| And.intro @seqK_exit <| And.intro @seqK_ret <| And.intro @blkK_nrm <| And.intro @blkK_exit <| And.intro @blkK_ret <| And.intro @loopK_nrm <| And.intro @loopK_exit <| And.intro @loopK_ret <| And.intro @cndF_t <| And.intro @cndF_f <| And.intro @cndF_p <| And.intro @grdF_t <| And.intro @grdF_f <| And.intro @grdF_s <| And.intro @grdF_pt <| And.intro @grdF_pf <| And.intro @ev_v <| And.intro @ev_k <| And.intro @ev_o <| And.intro @oev_al <| And.intro @oev_int <| And.intro @oev_sl <| And.intro @oev_str <| And.intro @oev_agg <| And.intro @oev_pt <| And.intro @oev_bool <| And.intro @lk_cons <| And.intro @lk_nil <| And.intro @st1_cons <| And.intro @st1_nil <| And.intro @keepE_cons <| @keepE_nil
theorem evB : type_of% (And.intro @putF_int <| And.intro @putF_bool <| And.intro @putF_str <| And.intro @putF_sl <| And.intro @putF_agg <| And.intro @putF_tup <| And.intro @putF_pt <| And.intro @putF_clo <| And.intro @putF_err <| And.intro @cbsF_s <| And.intro @cbsF_o <| And.intro @atV <| And.intro @atO <| And.intro @ldC_ints <| And.intro @ldC_ints' <| And.intro @ldC_aggc <| And.intro @ldC_cons <| And.intro @stG_ints <| And.intro @stG_box <| And.intro @appF_oo <| And.intro @appF_os <| And.intro @ints_app <| And.intro @ints_snoc <| And.intro @ints_length <| And.intro @ints_nil <| And.intro @cut_ints <| And.intro @slcF_o <| And.intro @slcF_s <| And.intro @slc2_eq <| And.intro @slSF_eq <| And.intro @slS2_eq <| And.intro @mkfF_eq <| And.intro @capt_eq <| And.intro @captD_box <| And.intro @captD_pt <| And.intro @extF_eq <| And.intro @extO_eq <| And.intro @pickF_t <| And.intro @pickF_f <| And.intro @pickF_p <| And.intro @lend_eq <| And.intro @dulls_nil <| And.intro @dulls_v <| And.intro @dulls_k <| And.intro @dulls_o <| And.intro @bldF_eq <| And.intro @bldSF_eq <| And.intro @bldAF_eq <| And.intro @slAF_b <| And.intro @slAF_p <| And.intro @s2aF_s <| And.intro @bldLF_eq <| And.intro @fillD_nil <| And.intro @fillD_cons <| And.intro @inR_i64 <| And.intro @inR_u64 <| And.intro @inR_u32 <| And.intro @inR_i32 <| And.intro @inR_u8 <| And.intro @dB_True <| And.intro @dB_False <| And.intro @dB_neg <| And.intro @dB_beq_true <| And.intro @dB_beq_false <| @maxLen_eq) := And.intro @putF_int <| And.intro @putF_bool <| And.intro @putF_str <| And.intro @putF_sl <| And.intro @putF_agg <| And.intro @putF_tup <| And.intro @putF_pt <| And.intro @putF_clo <| And.intro @putF_err <| And.intro @cbsF_s <| And.intro @cbsF_o <| And.intro @atV <| And.intro @atO <| And.intro @ldC_ints <| And.intro @ldC_ints' <| And.intro @ldC_aggc <| And.intro @ldC_cons <| And.intro @stG_ints <| And.intro @stG_box <| And.intro @appF_oo <| And.intro @appF_os <| And.intro @ints_app <| And.intro @ints_snoc <| And.intro @ints_length <| And.intro @ints_nil <| And.intro @cut_ints <| And.intro @slcF_o <| And.intro @slcF_s <| And.intro @slc2_eq <| And.intro @slSF_eq <| And.intro @slS2_eq <| And.intro @mkfF_eq <| And.intro @capt_eq <| And.intro @captD_box <| And.intro @captD_pt <| And.intro @extF_eq <| And.intro @extO_eq <| And.intro @pickF_t <| And.intro @pickF_f <| And.intro @pickF_p <| And.intro @lend_eq <| And.intro @dulls_nil <| And.intro @dulls_v <| And.intro @dulls_k <| And.intro @dulls_o <| And.intro @bldF_eq <| And.intro @bldSF_eq <| And.intro @bldAF_eq <| And.intro @slAF_b <| And.intro @slAF_p <| And.intro @s2aF_s <| And.intro @bldLF_eq <| And.intro @fillD_nil <| And.intro @fillD_cons <| And.intro @inR_i64 <| And.intro @inR_u64 <| And.intro @inR_u32 <| And.intro @inR_i32 <| And.intro @inR_u8 <| And.intro @dB_True <| And.intro @dB_False <| And.intro @dB_neg <| And.intro @dB_beq_true <| And.intro @dB_beq_false <| @maxLen_eq
theorem evC : type_of% (And.intro @retQ_nrm <| And.intro @retQ_ret <| And.intro @resD_t <| And.intro @Option.map_some.{0, 0} <| And.intro @Option.map_none.{0, 0} <| And.intro @List.getElem?_cons_zero.{0} <| And.intro @List.getElem?_cons_succ.{0} <| And.intro @List.map_cons.{0, 0} <| And.intro @List.map_nil.{0, 0} <| And.intro @List.length_cons.{0} <| And.intro @List.length_nil.{0} <| And.intro @List.all_cons.{0} <| And.intro @List.all_nil.{0} <| And.intro @Bool.and_self <| And.intro @Bool.and_true <| And.intro @Bool.true_and <| And.intro @List.take_succ_cons.{0} <| And.intro @List.take_zero.{0} <| And.intro @List.drop_succ_cons.{0} <| And.intro @List.drop_zero.{0} <| And.intro @List.nil_append.{0} <| And.intro @List.cons_append.{0} <| And.intro @List.append_nil.{0} <| And.intro @List.drop_nil.{0} <| And.intro @List.take_nil.{0} <| And.intro @List.replicate_succ.{0} <| And.intro @List.replicate_zero.{0} <| And.intro @List.flatten_cons.{0} <| And.intro @List.flatten_nil.{0} <| And.intro @Nat.zero_add <| And.intro @Nat.add_zero <| And.intro @Nat.mul_one <| And.intro @Nat.one_mul <| And.intro @Nat.zero_mul <| And.intro @Nat.zero_le <| And.intro @Int.toNat_natCast <| And.intro @Int.toNat_zero <| And.intro @Nat.sub_zero <| And.intro @Nat.le_refl <| And.intro @List.cons.injEq.{0} <| And.intro @true_and <| And.intro @and_true <| And.intro @Bool.not_true <| And.intro @Bool.not_false <| And.intro @Bool.false_eq_true <| And.intro @Bool.not_eq_true <| And.intro @Option.some.injEq.{0} <| And.intro @D.sl.injEq <| And.intro @D.int.injEq <| And.intro @D.bool.injEq <| And.intro @and_self <| And.intro @ne_eq.{1} <| And.intro @not_false_eq_true <| And.intro @not_true_eq_false <| And.intro @Int.ofNat_eq_natCast <| And.intro @imp_self <| @false_implies) := And.intro @retQ_nrm <| And.intro @retQ_ret <| And.intro @resD_t <| And.intro @Option.map_some.{0, 0} <| And.intro @Option.map_none.{0, 0} <| And.intro @List.getElem?_cons_zero.{0} <| And.intro @List.getElem?_cons_succ.{0} <| And.intro @List.map_cons.{0, 0} <| And.intro @List.map_nil.{0, 0} <| And.intro @List.length_cons.{0} <| And.intro @List.length_nil.{0} <| And.intro @List.all_cons.{0} <| And.intro @List.all_nil.{0} <| And.intro @Bool.and_self <| And.intro @Bool.and_true <| And.intro @Bool.true_and <| And.intro @List.take_succ_cons.{0} <| And.intro @List.take_zero.{0} <| And.intro @List.drop_succ_cons.{0} <| And.intro @List.drop_zero.{0} <| And.intro @List.nil_append.{0} <| And.intro @List.cons_append.{0} <| And.intro @List.append_nil.{0} <| And.intro @List.drop_nil.{0} <| And.intro @List.take_nil.{0} <| And.intro @List.replicate_succ.{0} <| And.intro @List.replicate_zero.{0} <| And.intro @List.flatten_cons.{0} <| And.intro @List.flatten_nil.{0} <| And.intro @Nat.zero_add <| And.intro @Nat.add_zero <| And.intro @Nat.mul_one <| And.intro @Nat.one_mul <| And.intro @Nat.zero_mul <| And.intro @Nat.zero_le <| And.intro @Int.toNat_natCast <| And.intro @Int.toNat_zero <| And.intro @Nat.sub_zero <| And.intro @Nat.le_refl <| And.intro @List.cons.injEq.{0} <| And.intro @true_and <| And.intro @and_true <| And.intro @Bool.not_true <| And.intro @Bool.not_false <| And.intro @Bool.false_eq_true <| And.intro @Bool.not_eq_true <| And.intro @Option.some.injEq.{0} <| And.intro @D.sl.injEq <| And.intro @D.int.injEq <| And.intro @D.bool.injEq <| And.intro @and_self <| And.intro @ne_eq.{1} <| And.intro @not_false_eq_true <| And.intro @not_true_eq_false <| And.intro @Int.ofNat_eq_natCast <| And.intro @imp_self <| @false_implies
/-! ### with guards that are looked at first -/
section gg
variable {C : FuncId → List D → D → Prop} {s t : Nat} {w : Bool} {k : K} {ps : List PO} {N : EP} {E : Env} {p : Prop}
def gg (C : FuncId → List D → D → Prop) (s : Nat) (w : Bool) (t : Nat) (d : D) (k : K) (ps : List PO) (N : EP) (E : Env) : Prop := grdF s w t d (stepF C k t (wE C ps N)) (wE C ps N) E
theorem wE_gg : wE C (⟨some t, k, some (s, w)⟩ :: ps) N E = gg C s w t (lk E s) k ps N E := rfl
theorem gg_tt : gg C s true t (.bool true) k ps N E = stepF C k t (wE C ps N) (st1 E s (.bool true)) := by simp only [gg, grdF_t, if_true]
theorem gg_tf : gg C s false t (.bool true) k ps N E = wE C ps N (st1 (st1 E s (.bool true)) t (.tup [])) := by simp [gg, grdF_t]
theorem gg_ft : gg C s true t (.bool false) k ps N E = wE C ps N (st1 (st1 E s (.bool false)) t (.tup [])) := by simp [gg, grdF_f]
theorem gg_ff : gg C s false t (.bool false) k ps N E = stepF C k t (wE C ps N) (st1 E s (.bool false)) := by simp [gg, grdF_f]
theorem gg_s : gg C s w t (.tup []) k ps N E = wE C ps N (st1 E t (.tup [])) := rfl
theorem gg_pt : gg C s true t (.bool (dB p)) k ps N E = ((p → stepF C k t (wE C ps N) (st1 E s (.bool true))) ∧ (¬p → wE C ps N (st1 (st1 E s (.bool false)) t (.tup [])))) := by simp only [gg, grdF_pt]
theorem gg_pf : gg C s false t (.bool (dB p)) k ps N E = ((¬p → stepF C k t (wE C ps N) (st1 E s (.bool false))) ∧ (p → wE C ps N (st1 (st1 E s (.bool true)) t (.tup [])))) := by simp only [gg, grdF_pf]
end gg
theorem evX : type_of% (And.intro @wC_seq <| And.intro @wC_reg <| And.intro @wC_cnd <| And.intro @wC_blk <| And.intro @wC_loop <| And.intro @wC_exit <| And.intro @wC_skip <| And.intro @wC_ret <| And.intro @wC_bad <| And.intro @GB_eq <| And.intro @zap_nil <| And.intro @zap_cons <| And.intro @lgF_g <| And.intro @lgF_b <| And.intro @sgOF_g <| And.intro @sgOF_b <| And.intro @sgPF_g <| And.intro @sgPF_b <| And.intro @wC_rfn <| And.intro @wC_cus <| And.intro @asgK_nrm <| And.intro @bodK_nrm <| And.intro @wE_nil <| And.intro @wE_none <| And.intro @wE_st <| And.intro @regK_eq <| And.intro @seqK_nrm <| And.intro @seqK_exit <| And.intro @seqK_ret <| And.intro @blkK_nrm <| And.intro @blkK_exit <| And.intro @blkK_ret <| And.intro @loopK_nrm <| And.intro @loopK_exit <| And.intro @loopK_ret <| And.intro @cndF_t <| And.intro @cndF_f <| And.intro @cndF_p <| And.intro @ev_v <| And.intro @ev_k <| And.intro @ev_o <| And.intro @oev_al <| And.intro @oev_int <| And.intro @oev_sl <| And.intro @oev_str <| And.intro @oev_agg <| And.intro @oev_pt <| And.intro @oev_bool <| And.intro @lk_cons <| And.intro @lk_nil <| And.intro @st1_cons <| And.intro @st1_nil <| And.intro @keepE_cons <| And.intro @keepE_nil <| And.intro @putF_int <| And.intro @putF_bool <| And.intro @putF_str <| And.intro @putF_sl <| And.intro @putF_agg <| @putF_tup) := And.intro @wC_seq <| And.intro @wC_reg <| And.intro @wC_cnd <| And.intro @wC_blk <| And.intro @wC_loop <| And.intro @wC_exit <| And.intro @wC_skip <| And.intro @wC_ret <| And.intro @wC_bad <| And.intro @GB_eq <| And.intro @zap_nil <| And.intro @zap_cons <| And.intro @lgF_g <| And.intro @lgF_b <| And.intro @sgOF_g <| And.intro @sgOF_b <| And.intro @sgPF_g <| And.intro @sgPF_b <| And.intro @wC_rfn <| And.intro @wC_cus <| And.intro @asgK_nrm <| And.intro @bodK_nrm <| And.intro @wE_nil <| And.intro @wE_none <| And.intro @wE_st <| And.intro @regK_eq <| And.intro @seqK_nrm <| And.intro @seqK_exit <| And.intro @seqK_ret <| And.intro @blkK_nrm <| And.intro @blkK_exit <| And.intro @blkK_ret <| And.intro @loopK_nrm <| And.intro @loopK_exit <| And.intro @loopK_ret <| And.intro @cndF_t <| And.intro @cndF_f <| And.intro @cndF_p <| And.intro @ev_v <| And.intro @ev_k <| And.intro @ev_o <| And.intro @oev_al <| And.intro @oev_int <| And.intro @oev_sl <| And.intro @oev_str <| And.intro @oev_agg <| And.intro @oev_pt <| And.intro @oev_bool <| And.intro @lk_cons <| And.intro @lk_nil <| And.intro @st1_cons <| And.intro @st1_nil <| And.intro @keepE_cons <| And.intro @keepE_nil <| And.intro @putF_int <| And.intro @putF_bool <| And.intro @putF_str <| And.intro @putF_sl <| And.intro @putF_agg <| @putF_tup
theorem evY : type_of% (And.intro @putF_pt <| And.intro @putF_clo <| And.intro @putF_err <| And.intro @cbsF_s <| And.intro @cbsF_o <| And.intro @atV <| And.intro @atO <| And.intro @ldC_ints <| And.intro @ldC_ints' <| And.intro @ldC_aggc <| And.intro @ldC_cons <| And.intro @stG_ints <| And.intro @stG_box <| And.intro @appF_oo <| And.intro @appF_os <| And.intro @ints_app <| And.intro @ints_snoc <| And.intro @ints_length <| And.intro @ints_nil <| And.intro @cut_ints <| And.intro @slcF_o <| And.intro @slcF_s <| And.intro @slc2_eq <| And.intro @slSF_eq <| And.intro @slS2_eq <| And.intro @mkfF_eq <| And.intro @capt_eq <| And.intro @captD_box <| And.intro @captD_pt <| And.intro @extF_eq <| And.intro @extO_eq <| And.intro @pickF_t <| And.intro @pickF_f <| And.intro @pickF_p <| And.intro @lend_eq <| And.intro @dulls_nil <| And.intro @dulls_v <| And.intro @dulls_k <| And.intro @dulls_o <| And.intro @bldF_eq <| And.intro @bldSF_eq <| And.intro @bldAF_eq <| And.intro @slAF_b <| And.intro @slAF_p <| And.intro @s2aF_s <| And.intro @bldLF_eq <| And.intro @fillD_nil <| And.intro @fillD_cons <| And.intro @inR_i64 <| And.intro @inR_u64 <| And.intro @inR_u32 <| And.intro @inR_i32 <| And.intro @inR_u8 <| And.intro @dB_True <| And.intro @dB_False <| And.intro @dB_neg <| And.intro @dB_beq_true <| And.intro @dB_beq_false <| And.intro @maxLen_eq <| And.intro @retQ_nrm <| And.intro @retQ_ret <| And.intro @resD_t <| And.intro @Option.map_some.{0, 0} <| And.intro @Option.map_none.{0, 0} <| @List.getElem?_cons_zero.{0}) := And.intro @putF_pt <| And.intro @putF_clo <| And.intro @putF_err <| And.intro @cbsF_s <| And.intro @cbsF_o <| And.intro @atV <| And.intro @atO <| And.intro @ldC_ints <| And.intro @ldC_ints' <| And.intro @ldC_aggc <| And.intro @ldC_cons <| And.intro @stG_ints <| And.intro @stG_box <| And.intro @appF_oo <| And.intro @appF_os <| And.intro @ints_app <| And.intro @ints_snoc <| And.intro @ints_length <| And.intro @ints_nil <| And.intro @cut_ints <| And.intro @slcF_o <| And.intro @slcF_s <| And.intro @slc2_eq <| And.intro @slSF_eq <| And.intro @slS2_eq <| And.intro @mkfF_eq <| And.intro @capt_eq <| And.intro @captD_box <| And.intro @captD_pt <| And.intro @extF_eq <| And.intro @extO_eq <| And.intro @pickF_t <| And.intro @pickF_f <| And.intro @pickF_p <| And.intro @lend_eq <| And.intro @dulls_nil <| And.intro @dulls_v <| And.intro @dulls_k <| And.intro @dulls_o <| And.intro @bldF_eq <| And.intro @bldSF_eq <| And.intro @bldAF_eq <| And.intro @slAF_b <| And.intro @slAF_p <| And.intro @s2aF_s <| And.intro @bldLF_eq <| And.intro @fillD_nil <| And.intro @fillD_cons <| And.intro @inR_i64 <| And.intro @inR_u64 <| And.intro @inR_u32 <| And.intro @inR_i32 <| And.intro @inR_u8 <| And.intro @dB_True <| And.intro @dB_False <| And.intro @dB_neg <| And.intro @dB_beq_true <| And.intro @dB_beq_false <| And.intro @maxLen_eq <| And.intro @retQ_nrm <| And.intro @retQ_ret <| And.intro @resD_t <| And.intro @Option.map_some.{0, 0} <| And.intro @Option.map_none.{0, 0} <| @List.getElem?_cons_zero.{0}
theorem evZ : type_of% (And.intro @List.getElem?_cons_succ.{0} <| And.intro @List.map_cons.{0, 0} <| And.intro @List.map_nil.{0, 0} <| And.intro @List.length_cons.{0} <| And.intro @List.length_nil.{0} <| And.intro @List.all_cons.{0} <| And.intro @List.all_nil.{0} <| And.intro @Bool.and_self <| And.intro @Bool.and_true <| And.intro @Bool.true_and <| And.intro @List.take_succ_cons.{0} <| And.intro @List.take_zero.{0} <| And.intro @List.drop_succ_cons.{0} <| And.intro @List.drop_zero.{0} <| And.intro @List.nil_append.{0} <| And.intro @List.cons_append.{0} <| And.intro @List.append_nil.{0} <| And.intro @List.drop_nil.{0} <| And.intro @List.take_nil.{0} <| And.intro @List.replicate_succ.{0} <| And.intro @List.replicate_zero.{0} <| And.intro @List.flatten_cons.{0} <| And.intro @List.flatten_nil.{0} <| And.intro @Nat.zero_add <| And.intro @Nat.add_zero <| And.intro @Nat.mul_one <| And.intro @Nat.one_mul <| And.intro @Nat.zero_mul <| And.intro @Nat.zero_le <| And.intro @Int.toNat_natCast <| And.intro @Int.toNat_zero <| And.intro @Nat.sub_zero <| And.intro @Nat.le_refl <| And.intro @List.cons.injEq.{0} <| And.intro @true_and <| And.intro @and_true <| And.intro @Bool.not_true <| And.intro @Bool.not_false <| And.intro @Bool.false_eq_true <| And.intro @Bool.not_eq_true <| And.intro @Option.some.injEq.{0} <| And.intro @D.sl.injEq <| And.intro @D.int.injEq <| And.intro @D.bool.injEq <| And.intro @and_self <| And.intro @ne_eq.{1} <| And.intro @not_false_eq_true <| And.intro @not_true_eq_false <| And.intro @Int.ofNat_eq_natCast <| And.intro @imp_self <| And.intro @false_implies <| And.intro @wE_gg <| And.intro @gg_tt <| And.intro @gg_tf <| And.intro @gg_ft <| And.intro @gg_ff <| And.intro @gg_s <| And.intro @gg_pt <| @gg_pf) := And.intro @List.getElem?_cons_succ.{0} <| And.intro @List.map_cons.{0, 0} <| And.intro @List.map_nil.{0, 0} <| And.intro @List.length_cons.{0} <| And.intro @List.length_nil.{0} <| And.intro @List.all_cons.{0} <| And.intro @List.all_nil.{0} <| And.intro @Bool.and_self <| And.intro @Bool.and_true <| And.intro @Bool.true_and <| And.intro @List.take_succ_cons.{0} <| And.intro @List.take_zero.{0} <| And.intro @List.drop_succ_cons.{0} <| And.intro @List.drop_zero.{0} <| And.intro @List.nil_append.{0} <| And.intro @List.cons_append.{0} <| And.intro @List.append_nil.{0} <| And.intro @List.drop_nil.{0} <| And.intro @List.take_nil.{0} <| And.intro @List.replicate_succ.{0} <| And.intro @List.replicate_zero.{0} <| And.intro @List.flatten_cons.{0} <| And.intro @List.flatten_nil.{0} <| And.intro @Nat.zero_add <| And.intro @Nat.add_zero <| And.intro @Nat.mul_one <| And.intro @Nat.one_mul <| And.intro @Nat.zero_mul <| And.intro @Nat.zero_le <| And.intro @Int.toNat_natCast <| And.intro @Int.toNat_zero <| And.intro @Nat.sub_zero <| And.intro @Nat.le_refl <| And.intro @List.cons.injEq.{0} <| And.intro @true_and <| And.intro @and_true <| And.intro @Bool.not_true <| And.intro @Bool.not_false <| And.intro @Bool.false_eq_true <| And.intro @Bool.not_eq_true <| And.intro @Option.some.injEq.{0} <| And.intro @D.sl.injEq <| And.intro @D.int.injEq <| And.intro @D.bool.injEq <| And.intro @and_self <| And.intro @ne_eq.{1} <| And.intro @not_false_eq_true <| And.intro @not_true_eq_false <| And.intro @Int.ofNat_eq_natCast <| And.intro @imp_self <| And.intro @false_implies <| And.intro @wE_gg <| And.intro @gg_tt <| And.intro @gg_tf <| And.intro @gg_ft <| And.intro @gg_ff <| And.intro @gg_s <| And.intro @gg_pt <| @gg_pf
theorem stG_own {k : IntKind} {l : List Int} {j n m s : Nat} {x : Int} {N : EP} {E : Env} : stG 1 s j (.own true n m (ints k l)) (.int k x) N E = (j < l.length ∧ N (st1 E s (.own true n m (ints k (l.set j x))))) := stG_ints (t := 0)
theorem bqtt : (true == true) = true := rfl
theorem bqtf : (true == false) = false := rfl
theorem bqft : (false == true) = false := rfl
theorem bqff : (false == false) = true := rfl
/-- one evaluation: the second hypothesis is found by the tactic -/
theorem ev {p q : Prop} (h : q) (e : p = q := by first | (simp only [evX, evY, evZ, forall_const, implies_true, initE, stepF, D.clean, mvF, moF, tkF, shF, ariF, ciF, catF, scF, ebF, eqF, eqOk, eqPr, enF, notF, ngF, cvF, csF, csbF, lenF, lenSF, ixF, iaF, PX.slot, iaAF, faF, ldF, D.mem, stF, bxF, mkSF, boundF, fldF, ixAF, mmF2, D.plain, D.isPure, optAll, D.dull, callVF, splice, D.cells, D.one, sets, resT, D.flat, D.flat0, D.simple, Nat.reduceBNe, Nat.reduceLT, reduceIte, Nat.reduceEqDiff, Nat.reduceAdd, Nat.reduceMul, Nat.reduceSub, Nat.reduceLeDiff, Int.reduceToNat, Int.reduceLT, Int.reduceLE, Int.reduceEq, Int.reduceNeg, Int.reduceSub, Int.reduceAdd, Int.reduceMul, stG_own, bqtt, bqtf, bqft, bqff]; done) | (simp only [evX, evY, evZ, forall_const, implies_true, initE, stepF, D.clean, mvF, moF, tkF, shF, ariF, ciF, catF, scF, ebF, eqF, eqOk, eqPr, enF, notF, ngF, cvF, csF, csbF, lenF, lenSF, ixF, iaF, PX.slot, iaAF, faF, ldF, D.mem, stF, bxF, mkSF, boundF, fldF, ixAF, mmF2, D.plain, D.isPure, optAll, D.dull, callVF, splice, D.cells, D.one, sets, resT, D.flat, D.flat0, D.simple, Nat.reduceBNe, Nat.reduceLT, reduceIte, Nat.reduceEqDiff, Nat.reduceAdd, Nat.reduceMul, Nat.reduceSub, Nat.reduceLeDiff, Int.reduceToNat, Int.reduceLT, Int.reduceLE, Int.reduceEq, Int.reduceNeg, Int.reduceSub, Int.reduceAdd, Int.reduceMul, stG_own, bqtt, bqtf, bqft, bqff]; exact rfl)) : p := by rw [e]; exact h
theorem ev0 {p q : Prop} (h : q) (e : p = q := by first | (simp only [evA, evB, evC, forall_const, implies_true, initE, stepF, D.clean, mvF, moF, tkF, shF, ariF, ciF, catF, scF, ebF, eqF, eqOk, eqPr, enF, notF, ngF, cvF, csF, csbF, lenF, lenSF, ixF, iaF, PX.slot, iaAF, faF, ldF, D.mem, stF, bxF, mkSF, boundF, fldF, ixAF, mmF2, D.plain, D.isPure, optAll, D.dull, callVF, splice, D.cells, D.one, sets, resT, D.flat, D.flat0, D.simple, Nat.reduceBNe, Nat.reduceLT, reduceIte, Nat.reduceEqDiff, Nat.reduceAdd, Nat.reduceMul, Nat.reduceSub, Nat.reduceLeDiff, Int.reduceToNat, Int.reduceLT, Int.reduceLE, Int.reduceEq, Int.reduceNeg, Int.reduceSub, Int.reduceAdd, Int.reduceMul]; done) | (simp only [evA, evB, evC, forall_const, implies_true, initE, stepF, D.clean, mvF, moF, tkF, shF, ariF, ciF, catF, scF, ebF, eqF, eqOk, eqPr, enF, notF, ngF, cvF, csF, csbF, lenF, lenSF, ixF, iaF, PX.slot, iaAF, faF, ldF, D.mem, stF, bxF, mkSF, boundF, fldF, ixAF, mmF2, D.plain, D.isPure, optAll, D.dull, callVF, splice, D.cells, D.one, sets, resT, D.flat, D.flat0, D.simple, Nat.reduceBNe, Nat.reduceLT, reduceIte, Nat.reduceEqDiff, Nat.reduceAdd, Nat.reduceMul, Nat.reduceSub, Nat.reduceLeDiff, Int.reduceToNat, Int.reduceLT, Int.reduceLE, Int.reduceEq, Int.reduceNeg, Int.reduceSub, Int.reduceAdd, Int.reduceMul]; exact rfl)) : p := by rw [e]; exact h
end Go.Pi
