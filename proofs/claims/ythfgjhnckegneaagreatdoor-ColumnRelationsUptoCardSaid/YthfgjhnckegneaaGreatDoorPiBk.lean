/-
  A RANGE OVER slices.Backward: the law of the statement, told which element comes in which round. Own work (after the kit's law of ranges over a function).
-/
import Derived.Test.YthfgjhnckegneaaGreatDoorPiR
import Derived.RangeFuncBox
import Derived.RangeFuncLeaves
namespace Go.Pi
open Go Go.RowKit

/-- f is the iterator of slices.Backward over elements of sz cells (ag: structs) -/
def IsBack (P : Program) (f : Nat) (ag : Bool) (sz : Nat) : Prop := ∀ (nn l Bs bo : Nat) (J : Nat → World → Prop) (m : Nat) (cs : List D) (W : World), m * sz = cs.length →
  (∀ k W, J k W → ∃ S r, Rep S W (.pt (.sl m cs :: r)) (.pointer (some ⟨Bs, bo, none⟩))) →
  (∀ k W, k < m → J k W → ∀ S d x, ofCells ag sz (cs.drop ((m - 1 - k) * sz)) = some d → Rep S W d x → YieldAt Fence.wide nn P l #[.int .i64 ((m - 1 - k : Nat) : Int), x] W fun e W' => e = .returned (.bool true) ∧ J (k + 1) W') →
  J 0 W → CallsIn Fence.wide (nn + 1) P f #[.func (.yield l) #[] #[], .pointer (some ⟨Bs, bo, none⟩)] W fun e W' => (∃ v, e = .returned v) ∧ J m W'

/-- whatever is no cells stands -/
def Keeps (W W' : World) : Prop := ∀ (k : Nat) (o : Obj), W.heap[k]? = some o → o.isCells = false → W'.heap[k]? = some o

theorem callFunc_ok {P : Program} {f : FuncId} (hb : hasBody P f = true) (args : Array Value) (w : World) : (callFunc f args).run P w = .ok (.enter f args) w := by
  unfold hasBody at hb
  split at hb
  · rename_i fn hf
    simp only [Bool.and_eq_true, bne_iff_ne, ne_eq] at hb
    obtain ⟨h1, h2⟩ := hb
    obtain ⟨c, hc⟩ := Option.isSome_iff_exists.1 h1
    simp [callFunc, *]
  · cases hb

theorem wpIn_back {P : Program} {nn : Nat} {gf : Nat} {ag : Bool} {sz : Nat} (hb : IsBack P gf ag sz) {g : Operand} {k1 k2 : Nat} {assign body : Code} {Q : Exit → Act → World → Prop} {a : Act} {w : World} {m : Nat} {cs : List D} {Bs bo : Nat}
    (hm : m * sz = cs.length) (hg : a.eval g = .func (.func gf) #[] #[.pointer (some ⟨Bs, bo, none⟩)]) (eg : hasBody P gf = true)
    (I : Nat → World → Prop)
    (hI : ∀ k W j o o', I k W → w.heap.size ≤ j → W.heap[j]? = some o → o.isCells = false → o'.isCells = false → I k (W.putObj j o'))
    (hIa : ∀ o W, I 0 W → I 0 (W.alloc o))
    (hp : ∀ k W, I k W → ∃ S r, Rep S W (.pt (.sl m cs :: r)) (.pointer (some ⟨Bs, bo, none⟩)))
    (h0 : I 0 w)
    (hround : ∀ (l k : Nat) (W : World) (S : Nat → Nat → Prop) (d : D) (x : Value), k < m → I k W → ofCells ag sz (cs.drop ((m - 1 - k) * sz)) = some d → Rep S W d x → w.heap.size ≤ l → (∃ o, W.heap[l]? = some o ∧ o.isCells = false) →
      assign.wpIn (WF (some l)) nn P (Exit.then (fun a₁ w₁ => Keeps W w₁ ∧ ∀ o', o'.isCells = false → body.wpIn (WF (some l)) nn P (fun e _ W3 => e = .normal ∧ Keeps (w₁.putObj l o') W3 ∧ I (k + 1) W3) a₁ (w₁.putObj l o')) (fun _ _ _ => False))
        { tmps := (a.tmps.setIfInBounds k1 (.int .i64 ((m - 1 - k : Nat) : Int))).setIfInBounds k2 x, defers := [] } W)
    (hdone : ∀ (D : Nat) (W : World), w.heap.size ≤ D → I m W → W.heap[D]? = some (.deferred (some [])) → Q .normal { a with defers := { target := .collected D, args := #[] } :: a.defers } W) :
    (Code.rangeFunc g #[k1, k2] assign body).wpIn (WF none) nn P Q a w := by
  refine wpIn_rangeFunc ?_
  intro fn hfn
  show ∃ (l : Nat) (mark : List Deferred) (w₁ : World) (d : Deferred) (w₁' : World) (f : FuncId) (args : Array Value) (w₂ : World),
      (Instr.enterLoop fn a.tmps #[k1, k2] assign body none).run P w = .ok (l, mark) w₁ ∧ _
  obtain ⟨rec, hrec⟩ : ∃ rec : LoopState → Option Code → Loop, rec = fun st pe => { state := st, pending := pe, fn, tmps := a.tmps, params := #[k1, k2], assign, body, defers := w.heap.size } := ⟨_, rfl⟩
  obtain ⟨W1, hW1⟩ : ∃ W1, (w.alloc (.deferred (some []))).alloc (.loop (rec .ready none)) = W1 := ⟨_, rfl⟩
  have hL1 : W1.heap[w.heap.size + 1]? = some (.loop (rec .ready none)) := by
    rw [← hW1]; have := World.alloc_heap_new (w.alloc (.deferred (some []))) (.loop (rec .ready none)); rwa [World.size_alloc] at this
  have hK1 : W1.heap[w.heap.size]? = some (.deferred (some [])) := by
    rw [← hW1]; exact (Below.heap_alloc _ _ _ (by simp)).trans (World.alloc_heap_new w _)
  have hI1 : I 0 W1 := by rw [← hW1]; exact hIa _ _ (hIa _ _ h0)
  refine ⟨w.heap.size + 1, [{ target := .collected w.heap.size, args := #[] }], W1, { target := .fn (.func gf) #[.pointer (some ⟨Bs, bo, none⟩)], args := #[.func (.yield (w.heap.size + 1)) #[] #[]] }, W1, gf,
    #[.func (.yield (w.heap.size + 1)) #[] #[]] ++ #[.pointer (some ⟨Bs, bo, none⟩)], W1, ?_, ?_, ?_, ?_, ?_, ?_⟩
  · rw [← hW1, hrec]; exact run_enterLoop_outer _ _ _ _ _
  · simp only [resolve, hg]
    simp [go_sem]
  · intro f' _; trivial
  · have := callFunc_ok eg (#[.func (.yield (w.heap.size + 1)) #[] #[]] ++ #[.pointer (some ⟨Bs, bo, none⟩)]) W1
    simpa [invoke, go_sem] using this
  · intro h; cases h
  · have key := hb nn (w.heap.size + 1) Bs bo
      (fun k W => I k W ∧ W.heap[w.heap.size + 1]? = some (.loop (rec .ready none)) ∧ W.heap[w.heap.size]? = some (.deferred (some []))) m cs W1 hm (fun k W h => hp k W h.1) ?_ ⟨hI1, hL1, hK1⟩
    · refine CallsIn.mono ((callsIn_wide (n := nn - 1)).2 (callsIn_wide.1 key)) ?_
      rintro e W2 ⟨⟨v, rfl⟩, hi, hl, hk⟩
      refine ⟨none, _, by have := run_endLoop (P := P) hl (by rw [hrec]; simp); rw [hrec] at this; exact this, hdone _ _ (Nat.le_refl _) (hI _ _ _ _ _ hi (by omega) hl rfl rfl) ((World.putObj_heap_other (by omega)).trans hk)⟩
    · -- one round
      rintro k W hkm ⟨hi, hl, hk⟩ S d x hd hx
      have hlt : w.heap.size + 1 < W.heap.size := (Array.getElem?_eq_some_iff.1 hl).1
      have hy := run_yield (P := P) (args := #[.int .i64 ((m - 1 - k : Nat) : Int), x]) hl (by rw [hrec]; rfl)
      rw [hrec] at hy
      have htm : (#[k1, k2].zip #[Value.int .i64 ((m - 1 - k : Nat) : Int), x]).foldl (fun tmps (t, a) => tmps.setIfInBounds t a) a.tmps = (a.tmps.setIfInBounds k1 (.int .i64 ((m - 1 - k : Nat) : Int))).setIfInBounds k2 x := by
        simp
      refine ⟨fn, _, assign, body, hy, roundIn_of_wpIn hfn ?_⟩
      simp only [htm]
      refine wpIn_mono (hround (w.heap.size + 1) k W S d x hkm hi hd hx (by omega) ⟨_, hl, rfl⟩) ?_
      rintro e a₁ w₁ hq
      cases e with
      | normal =>
        obtain ⟨hk1, hbody⟩ := hq
        have hl1 := hk1 _ _ hl rfl
        refine ⟨_, run_beginRound hl1 (by rw [hrec]), ?_⟩
        have hlt1 : w.heap.size + 1 < w₁.heap.size := (Array.getElem?_eq_some_iff.1 hl1).1
        have hl2 : (w₁.putObj (w.heap.size + 1) (.loop { rec .ready none with state := .busy })).heap[w.heap.size + 1]? = some (.loop { rec .ready none with state := .busy }) := World.putObj_heap_same hlt1
        have hk2 : (w₁.putObj (w.heap.size + 1) (.loop { rec .ready none with state := .busy })).heap[w.heap.size]? = some (.deferred (some [])) := (World.putObj_heap_other (by omega)).trans (hk1 _ _ hk rfl)
        refine wpIn_mono (hbody _ rfl) ?_
        rintro e a3 W3 ⟨rfl, hk3, hi3⟩
        have hl3 := hk3 _ _ hl2 rfl
        have hr := run_endRound (P := P) none hl3
        rw [hrec] at hr
        refine ⟨_, _, hr, rfl, hI _ _ _ _ _ hi3 (by omega) hl3 rfl rfl, ?_, ?_⟩
        · rw [hrec]; exact World.putObj_heap_same (Array.getElem?_eq_some_iff.1 hl3).1
        · exact (World.putObj_heap_other (by omega)).trans (hk3 _ _ hk2 rfl)
      | exit id => exact hq.elim
      | goto t => exact hq.elim
      | ret => exact hq.elim
      | panic chain => exact hq.elim
      | outgrown => exact hq.elim

end Go.Pi
