/-
  A SLICE COMPARED WITH nil, before a branch: both ways are open for an empty slice. Own work.
-/
import Derived.Test.YthfgjhnckegneaaGreatDoorPi
import Derived.OwnWalkIn
namespace Go.Pi
open Go Go.RowKit

variable {P : Program} {L : World → Prop} {n : Nz} {S0 S : Nat → Nat → Prop} {w0 w : World} {O : Nat → Option Nat} {g : G} {tm : Array Value}

theorem run_equal_slice {t e : TypeId} (hu : P.underlying t = some (.slice e)) (a : Option Addr) (m c : Nat) : (Op.equal t (.slice a m c) (.slice none 0 0)).run P w = .ok a.isNone w := by
  unfold Op.equal
  show (Op.equalIn (9999 + 1) t (.slice a m c) (.slice none 0 0)).run P w = _
  unfold Op.equalIn
  cases a <;> simp [run_underlying hu]

/-- slot x is a slice; t2 says whether it is nil -/
def nilT (x t2 : Nat) (out : List Nat) : PT where
  f := fun M E => ∃ m cs, (lk E x).slv = some (m, cs) ∧ ∀ b : Bool, (b = true → m = 0) → M (sets (keepE out E) [(t2, .bool b)])
  mono := fun hM ⟨m, cs, h1, h2⟩ => ⟨m, cs, h1, fun b hb => hM _ (h2 b hb)⟩

theorem nilT_ok {rid x t1 t2 : Nat} {out : List Nat} {ops : Array Oper} {o1 o2 : Oper} {ty ty2 e : TypeId} (hops : ops.toList = [o1, o2])
    (h1 : o1.op = .move (.tmp x)) (h1d : o1.dst = some t1) (h1g : o1.guard = none) (h2 : o2.op = .binOp .eql ty (.tmp t1) (.const (.slice none 0 0)) ty2) (h2d : o2.dst = some t2) (h2g : o2.guard = none)
    (hu : P.underlying ty = some (.slice e)) (hx : x < GB) (hout : out.all (fun t => t != t1 && t != t2) = true) (h12 : t1 ≠ t2) :
    CusOk P L (.region rid ops false) [t1, t2] (nilT x t2 out) := by
  intro nn rd okf S0 w0 n0 df0 M Qc E tm w n df hws hL0 had hna hg hT hQ
  obtain ⟨m, cs, hsl, hM⟩ := hT
  have ht1 := had.1 t1 (hws t1 (by simp))
  have ht2 := had.1 t2 (hws t2 (by simp))
  have hno : ∀ t, t ∈ out → t ≠ t1 ∧ t ≠ t2 := fun t ht => by have := List.all_eq_true.1 hout t ht; simpa using this
  obtain ⟨a, cap, hv, hm⟩ : ∃ a cap, tm.getD x undef = .slice a m cap ∧ (a.isNone = true → m = 0) := by
    obtain ⟨S, O, gv, hI⟩ := id hg
    cases hq : lk E x <;> rw [hq] at hsl <;> simp only [D.slv] at hsl <;> cases hsl
    · have hr := hI.rep (t := x) (by rw [hq]; rfl)
      rw [hq] at hr
      generalize tm.getD x undef = v at hr
      cases hr with
      | sl0 a cap hc => exact ⟨a, cap, rfl, fun _ => rfl⟩
      | slN => exact ⟨none, 0, rfl, fun _ => rfl⟩
      | sl m ds b off cap vs hl h1 hn hc hr h => exact ⟨_, cap, rfl, fun h => by cases h⟩
    · have hs := hI.slot x
      rw [hq] at hs
      simp only [SR, OwnR] at hs
      rw [tmOf_lt hx] at hs
      rcases hs with ⟨_, h2, h3, _⟩ | ⟨b, cap, arr, _, h2, _⟩
      · subst h3; exact ⟨none, 0, h2, fun _ => rfl⟩
      · exact ⟨_, cap, h2, fun h => by cases h⟩
  have hg1 := hg.keep (live := out)
  obtain ⟨S, O, gv, hI⟩ := id hg1
  have hun1 : lk (keepE out E) t1 = .un := by rw [lk_keepE, if_neg (fun h => (hno t1 h).1 rfl)]
  have hI1 := hI.touch (t := t1) (.slice a m cap) ht1.2 hun1 (fun t s h => by rw [keepE_noAlias out E t] at h; cases h)
  have hI2 := hI1.setPure (d := .bool a.isNone) (v := .bool a.isNone) (dst := t2) hI1.extRefl (fun _ _ z => z) (fun _ _ z => .inl z) (.bool _) ht2 (fun t s h => by rw [keepE_noAlias out E t] at h; cases h)
  have e1 : (execOp (rho tm) o1).run P w = .ok (.value (.slice a m cap)) w := by
    rw [exec_move (P := P) (w := w) (o := o1) (.inl h1) (rho tm)]
    simp only [rho, hv]
  have hgt : (tm.setIfInBounds t1 (.slice a m cap)).getD t1 undef = .slice a m cap := by
    have : t1 < tm.size := by rw [hI.size]; exact ht1.1
    simp [this]
  have e2 : (execOp (rho (tm.setIfInBounds t1 (.slice a m cap))) o2).run P w = .ok (.value (.bool a.isNone)) w := by
    have e3 : rho (tm.setIfInBounds t1 (.slice a m cap)) (.tmp t1) = .slice a m cap := hgt
    have e4 : rho (tm.setIfInBounds t1 (.slice a m cap)) (.const (.slice none 0 0)) = .slice none 0 0 := rfl
    simp [execOp, h2, e3, e4, eqGuard, binOp, run_equal_slice hu]
  refine wpIn_region_list ?_
  rw [hops]
  refine wpListIn_plain h1g fun K hK => ⟨fun _ _ => trivial, ?_⟩
  rw [Oper.semAt_plain _ _ _ (by rw [h1]; intro c h; cases h)]
  show Oper.uponIn _ _ _ _ _ _ _ ((execOp (rho tm) o1).run P w)
  rw [e1, Oper.uponIn_value, h1d]
  apply hK
  refine wpListIn_plain h2g fun K2 hK2 => ⟨fun _ _ => trivial, ?_⟩
  rw [Oper.semAt_plain _ _ _ (by rw [h2]; intro c h; cases h)]
  show Oper.uponIn _ _ _ _ _ _ _ ((execOp (rho (tm.setIfInBounds t1 (.slice a m cap))) o2).run P w)
  rw [e2, Oper.uponIn_value, h2d]
  apply hK2
  refine hQ _ _ w n df (hM a.isNone hm) ?_ had ⟨_, _, _, by rw [lk_sets]; exact hI2⟩
  intro t
  rw [lk_sets]
  show aliasOf (upd (lk (keepE out E)) t2 (.bool a.isNone) t) = none
  unfold upd
  split
  · rfl
  · exact keepE_noAlias out E t

theorem nilT_f {x t2 : Nat} {out : List Nat} {M : Env → Prop} {E : Env} : (nilT x t2 out).f M E = ∃ m cs, (lk E x).slv = some (m, cs) ∧ ∀ b : Bool, (b = true → m = 0) → M (sets (keepE out E) [(t2, .bool b)]) := rfl
end Go.Pi
