/-
 LEMMAS OF EVALUATION FOR FIELDS THAT HOLD SLICES OF THE CALL'S OWN. Own work.
-/
import Derived.Test.YtokpkgcjjbdinaaGreatDoorPl
set_option linter.unusedVariables false
set_option linter.unusedSimpArgs false
namespace Go.Pi
open Go

section
variable {N : EP} {E : Env} {t s p i j n m s' : Nat} {cs ms : List D} {d : D}
theorem GF_eq {t i : Nat} : GF t i = GB * (i + 2) + t := rfl
theorem faMF_b : faMF s i (.box true cs) t N E = ((i < cs.length ∧ s < GB) ∧ N (st1 E t (.rf s i))) := rfl
theorem faMF_m : faMF s i (.mbx cs) t N E = ((i < cs.length ∧ s < GB) ∧ N (st1 E t (.rf s i))) := rfl
theorem lgMF_b : lgMF p s i (.rf s' j) (.box true cs) t N E = ((s' = s ∧ j = i ∧ s < GB ∧ p < GB) ∧ lgMC s i t N E cs[i]?) := rfl
theorem lgMF_m : lgMF p s i (.rf s' j) (.mbx cs) t N E = ((s' = s ∧ j = i ∧ s < GB ∧ p < GB) ∧ lgMC s i t N E cs[i]?) := rfl
theorem lgMC_al : lgMC s i t N E (some (.al s')) = (s' = GF s i ∧ N (st1 E t (.al (GF s i)))) := rfl
theorem lgMC_sl : lgMC s i t N E (some (.sl n cs)) = N (st1 E t (.sl n cs)) := by simp [lgMC, D.isPure, D.one]
theorem lgMC_str {l : List UInt8} : lgMC s i t N E (some (.str l)) = N (st1 E t (.str l)) := by simp [lgMC, D.isPure, D.one]
theorem sgMF_b {ks : List Nat} {w : Bool} {e : Nat} : sgMF p s i ks (.rf s' j) (.box true cs) (.own w e n ms) N E = ((s' = s ∧ j = i ∧ s < GB ∧ p < GB ∧ i < cs.length ∧ (p :: ks).all (fun z => z != s && z != GF s i) = true) ∧
  N (zap (p :: ks) (st1 (st1 E s (.mbx (cs.set i (.al (GF s i))))) (GF s i) (.own w e n ms)))) := rfl
theorem sgMF_m {ks : List Nat} {w : Bool} {e : Nat} : sgMF p s i ks (.rf s' j) (.mbx cs) (.own w e n ms) N E = ((s' = s ∧ j = i ∧ s < GB ∧ p < GB ∧ i < cs.length ∧ (p :: ks).all (fun z => z != s && z != GF s i) = true) ∧
  N (zap (p :: ks) (st1 (st1 E s (.mbx (cs.set i (.al (GF s i))))) (GF s i) (.own w e n ms)))) := rfl
theorem ldMF_b {fs : List Nat} : ldMF n s fs (.box true cs) t N E = ((s < GB ∧ cs.length = n ∧ fs.all (fun z => z != s) = true ∧ cs.all (fldOk (lk E) fs) = true) ∧ N (sets (st1 E t (.agg (cs.map (unM (lk E))))) (fs.map fun z => (z, (lk E z).dull)))) := rfl
theorem ldMF_m {fs : List Nat} : ldMF n s fs (.mbx cs) t N E = ((s < GB ∧ cs.length = n ∧ fs.all (fun z => z != s) = true ∧ cs.all (fldOk (lk E) fs) = true) ∧ N (sets (st1 E t (.agg (cs.map (unM (lk E))))) (fs.map fun z => (z, (lk E z).dull)))) := rfl
theorem appF_no {e e2 sz bytes : Nat} {u : Option Nat} {w2 : Bool} : appF e sz bytes s u (.sl 0 [.un]) (.own w2 e2 m ms) t N E = (ms.length = m * sz ∧ m * bytes ≤ 140737488355328 ∧ m ≤ maxLen ∧
  N (match u with | some u => st1 (st1 (st1 E t (.own true e m ms)) s .un) u .un | none => st1 (st1 E t (.own true e m ms)) s .un)) := by
 refine propext ⟨fun ⟨m', ms', h, _, r⟩ => ?_, fun ⟨h1, h2, h3, h4⟩ => ⟨m, ms, rfl, rfl, h1, by rw [Nat.zero_add]; exact h2, by rw [Nat.zero_add]; exact h3, by rw [Nat.zero_add]; exact h4⟩⟩
 cases h
 rw [Nat.zero_add] at r
 exact r
theorem fldOk_al {fs : List Nat} : fldOk (lk E) fs (.al s) = (fs.contains s && isOwn (lk E s)) := rfl
theorem fldOk_str {fs : List Nat} {l : List UInt8} : fldOk (lk E) fs (.str l) = true := rfl
theorem fldOk_sl {fs : List Nat} : fldOk (lk E) fs (.sl n cs) = true := rfl
theorem isOwn_o {e : Nat} {w : Bool} : isOwn (.own w e n cs) = true := rfl
theorem unM_al : unM (lk E) (.al s) = (lk E s).plain := rfl
theorem unM_str {l : List UInt8} : unM (lk E) (.str l) = .str l := rfl
theorem unM_sl : unM (lk E) (.sl n cs) = .sl n cs := rfl
theorem fset0 {x : D} {r : List D} : (x :: r).set 0 d = d :: r := rfl
theorem fsetS {x : D} {r : List D} : (x :: r).set (i + 1) d = x :: r.set i d := rfl
end
end Go.Pi
