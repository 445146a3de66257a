/-
  A FUNCTION'S CONTRACT: all checks in one Bool. Own work.
-/
import Derived.Test.YthfgjhnckegneaaGreatDoorPiT
namespace Go.Pi
open Go Go.RowKit

def chkFn (P : Program) (fn : Func) (np : Nat) (pc : PC) (rs : List RV) : Bool :=
  pc.noCus && pc.backs.isEmpty && (fn.name != "runtime.NumGoroutine") && decide (np ≤ fn.ntmps ∧ fn.ntmps ≤ GB) && chkRV P fn.results.toList rs && (match fn.body with
    | some c => chkC P (fun d => decide (d < fn.ntmps)) c pc
    | none => false)

/-- what a function's end must answer -/
def retQ (rs : List RV) (r : D) : Ex → Env → Prop := fun ex E => (match ex with | .exit _ => False | _ => True) ∧ resD E rs = some r

/-- THE RULE, with the checks in one -/
theorem con_chk {P : Program} {L : World → Prop} (hL : ∀ w w', L w → Below w.heap.size w w' → L w') {f : FuncId} {fn : Func} {np : Nat} {pc : PC} {rs : List RV} (hf : P.funcs[f]? = some fn)
    (hc : chkFn P fn np pc rs = true) {ds : List D} {r : D} (hr0 : aliasOf r = none) (hlen : ds.length = np) (hp : ds.all (fun d => (aliasOf d).isNone) = true)
    (h : wpC (Con P L) pc (retQ rs r) (initE 0 ds)) : Con P L f ds r := by
  unfold chkFn at hc
  simp only [Bool.and_eq_true, decide_eq_true_eq] at hc
  obtain ⟨⟨⟨⟨⟨hnc, h0⟩, h1⟩, h2⟩, h3⟩, h4⟩ := hc
  rw [List.isEmpty_iff] at h0
  split at h4
  · rename_i c hb
    exact con_of hL hr0 hf hb h1 h4 h3 (by omega) hp (fun q hq => by rw [h0] at hq; cases hq) (fun q hq => by rw [cusL_nil c pc hnc] at hq; cases hq) h2.2 h
  · cases h4

/-- the same where ranges over slices.Backward occur -/
def chkFnR (P : Program) (fn : Func) (np : Nat) (pc : PC) (rs : List RV) : Bool :=
  (fn.name != "runtime.NumGoroutine") && decide (np ≤ fn.ntmps ∧ fn.ntmps ≤ GB) && chkRV P fn.results.toList rs && (match fn.body with
    | some c => chkC P (fun d => decide (d < fn.ntmps)) c pc
    | none => false)

theorem con_chkR {P : Program} {L : World → Prop} (hL : ∀ w w', L w → Below w.heap.size w w' → L w') {f : FuncId} {fn : Func} {np : Nat} {pc : PC} {rs : List RV} (hf : P.funcs[f]? = some fn)
    (hc : chkFnR P fn np pc rs = true) (hbk : ∀ q ∈ pc.backs, IsBack P q.1 q.2.1 q.2.2) (hcu : ∀ c, fn.body = some c → ∀ q ∈ cusL c pc, CusOk P L q.1 q.2.1 q.2.2) {ds : List D} {r : D} (hr0 : aliasOf r = none) (hlen : ds.length = np) (hp : ds.all (fun d => (aliasOf d).isNone) = true)
    (h : wpC (Con P L) pc (retQ rs r) (initE 0 ds)) : Con P L f ds r := by
  unfold chkFnR at hc
  simp only [Bool.and_eq_true, decide_eq_true_eq] at hc
  obtain ⟨⟨⟨h1, h2⟩, h3⟩, h4⟩ := hc
  split at h4
  · rename_i c hb
    exact con_of hL hr0 hf hb h1 h4 h3 (by omega) hp hbk (hcu c hb) h2.2 h
  · cases h4

end Go.Pi
