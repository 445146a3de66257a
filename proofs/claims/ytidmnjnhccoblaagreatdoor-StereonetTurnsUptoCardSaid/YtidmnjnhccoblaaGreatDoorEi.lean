/-
  STEREONET: a map of pixels to counts. Own work.
-/
import Derived.Test.YtidmnjnhccoblaaGreatDoorEd
import Derived.Maps.Own
import Derived.Maps.OwnOps
import Derived.Maps.Views
import Derived.WideKeyEntry
import Derived.DeepKeys4
set_option linter.unusedVariables false
set_option linter.unusedSimpArgs false
namespace Go.Proofs
open Go Go.Pi Go.RowKit

theorem setBlock_self {w : World} {b : Nat} {o : Obj} (h : w.heap[b]? = some o) : ChangeMaps.setBlock w b o = w := by
  unfold ChangeMaps.setBlock
  have hlt := (Array.getElem?_eq_some_iff.1 h).1
  have : w.heap.setIfInBounds b o = w.heap := by
    apply Array.ext'
    rw [Array.toList_setIfInBounds]
    apply List.ext_getElem?
    intro j
    rw [List.getElem?_set]
    by_cases e : b = j
    · subst e
      rw [if_pos rfl, if_pos (by simpa using hlt)]
      simpa using h.symm
    · rw [if_neg e]
  rw [this]
/-- a look at the entry that was just made or found -/
theorem entry_look {P : Program} {w : World} {t k e : TypeId} {b : Nat} {es : Array MapEntry} {clock : Nat} (K : WideMaps.KeyLaw P k) (ht : P.underlying t = some (.map k e)) {z : Value} (hz : ∀ u : World, (zeroValue e).run P u = .ok z u) (hb : w.heap[b]? = some (.map es clock))
    (hks : ∀ x ∈ es.toList, ∃ l, keyOf P k x.key = some l) {key : Value} {kl : Lit} (hkey : keyOf P k key = some kl) {v0 st : Value} {w1 : World} (hme : (Instr.mapEntry t (.map (some b)) key).run P w = .ok (.tuple #[v0, st]) w1) :
    (Instr.lookup t (.map (some b)) key false).run P w1 = .ok v0 w1 ∧ (Instr.lookup t (.map (some b)) key false).run P w = .ok v0 w := by
  rcases K.find w hkey es.toList hks with ⟨h1, h2⟩ | ⟨j, e0, h1, h2, h3⟩
  · have hrun : (Instr.mapEntry t (.map (some b)) key).run P w = .ok (.tuple #[z, goInt clock]) (ChangeMaps.setBlock w b (.map (es.push ⟨key, z, clock⟩) (clock + 1))) := by
      simp [Instr.mapEntry, run_underlying ht, MapKept.run_getObj_map hb, K.check w false hkey, h1, hz, MapKept.run_setObj_map _ hb, Result.andThen, ChangeMaps.setBlock]
    rw [hrun] at hme
    simp only [Result.ok.injEq, Value.tuple.injEq] at hme
    obtain ⟨hv, rfl⟩ := hme
    have hv0 : z = v0 := (List.cons.inj (congrArg Array.toList hv)).1
    subst hv0
    refine ⟨?_, by simp [Instr.lookup, run_underlying ht, MapKept.run_getObj_map hb, K.check w es.isEmpty hkey, h1, hz, Result.andThen]⟩
    have hb1 := ChangeMaps.heap_setBlock_same hb (.map (es.push ⟨key, z, clock⟩) (clock + 1))
    have hks1 : ∀ x ∈ (es.push ⟨key, z, clock⟩).toList, ∃ l, keyOf P k x.key = some l := fun x hx => by
      rw [Array.toList_push] at hx
      rcases List.mem_append.1 hx with hx | hx
      · exact hks x hx
      · simp only [List.mem_singleton] at hx; subst hx; exact ⟨kl, hkey⟩
    generalize ChangeMaps.setBlock w b (.map (es.push ⟨key, z, clock⟩) (clock + 1)) = w1 at *
    rcases K.find w1 hkey _ hks1 with ⟨_, g2⟩ | ⟨j', e', g1, g2, g3⟩
    · exact absurd rfl (g2 ⟨key, z, clock⟩ (by simp))
    · have he : e'.val = z := by
        have hm := List.mem_of_getElem? g2
        rw [Array.toList_push] at hm
        rcases List.mem_append.1 hm with hx | hx
        · exact absurd g3 (h2 e' hx)
        · simp only [List.mem_singleton] at hx; subst hx; rfl
      rw [Array.toList_push] at g1
      simp [Instr.lookup, run_underlying ht, MapKept.run_getObj_map hb1, K.check w1 false hkey, g1, he, Result.andThen]
  · have hj : es[j]? = some e0 := by simpa using h2
    have hsame : es.modify j (fun e => { e with key := key }) = es := by
      apply Array.ext'
      rw [Array.toList_modify]
      apply List.ext_getElem?
      intro i
      rw [List.getElem?_modify]
      by_cases e : j = i
      · subst e
        rw [h2]
        have : ({ e0 with key := key } : MapEntry) = e0 := by rw [← h3]
        simp [this]
      · cases es.toList[i]? <;> simp [e]
    have hrun : (Instr.mapEntry t (.map (some b)) key).run P w = .ok (.tuple #[e0.val, goInt e0.born]) (ChangeMaps.setBlock w b (.map es clock)) := by
      simp [Instr.mapEntry, run_underlying ht, MapKept.run_getObj_map hb, K.check w false hkey, h1, hj, h3, K.stays w hkey, hsame, MapKept.run_setObj_map _ hb, Result.andThen, ChangeMaps.setBlock]
    rw [setBlock_self hb, hme] at hrun
    simp only [Result.ok.injEq, Value.tuple.injEq] at hrun
    obtain ⟨hv, rfl⟩ := hrun
    have hv0 : v0 = e0.val := (List.cons.inj (congrArg Array.toList hv)).1
    subst hv0
    have hlk : ∀ w2, w2 = w1 → (Instr.lookup t (.map (some b)) key false).run P w2 = .ok e0.val w2 := fun w2 e => by
      subst e
      simp [Instr.lookup, run_underlying ht, MapKept.run_getObj_map hb, K.check _ es.isEmpty hkey, h1, Result.andThen]
    exact ⟨hlk _ rfl, hlk _ rfl⟩
theorem Tryz.lawLaid : laidOutB Tryz.prog = true := by kernel_rfl
theorem Tryz.dotLaw : WideMaps.KeyLaw Tryz.prog 30 := deep_law_laid Tryz.lawLaid (m := 2) (by omega) (of_decide_eq_true (by kernel_rfl)) (by kernel_rfl) (by rw [Tryz.underlying30])
theorem Tryz.dotKeyed : Maps.Keyed Tryz.prog 30 := Maps.Keyed.of_law Tryz.dotLaw
theorem wf64 {c : Int} (h : inR .i64 c) : (Lit.int .i64 c).wf = true := by
  rw [inR_i64] at h
  simp only [Lit.wf, Bool.and_eq_true, decide_eq_true_eq]
  rw [show IntKind.i64.min = -9223372036854775808 by decide, show IntKind.i64.max = 9223372036854775807 by decide]
  omega
theorem Tryz.dotKey {c r : Int} (hc : inR .i64 c) (hr : inR .i64 r) : ∃ kl, keyOf Tryz.prog 30 (.agg #[.int .i64 c, .int .i64 r]) = some kl := by
  have h1 := wf64 hc
  have h2 := wf64 hr
  have k1 : Tryz.prog.keyType 30 = true := by kernel_rfl
  have k2 : Tryz.prog.cellsOf 30 = 2 := by kernel_rfl
  have k3 : Tryz.prog.cellsOf 3 = 1 := by kernel_rfl
  obtain ⟨m, hm⟩ : ∃ m, Tryz.prog.types.size = m + 1 := ⟨Tryz.prog.types.size - 1, by have : 1 ≤ Tryz.prog.types.size := of_decide_eq_true (by kernel_rfl); omega⟩
  have key : Tryz.prog.keyLits (Tryz.prog.types.size + 1) 30 [.int .i64 c, .int .i64 r] = some [.int .i64 c, .int .i64 r] := by
    rw [hm]
    simp [Program.keyLits, Tryz.underlying30, Tryz.underlying3, k2, k3, h1, h2]
  refine ⟨.string (keyBytes [.int .i64 c, .int .i64 r]), ?_⟩
  unfold keyOf
  simp only [Value.formed, Value.cells, Tryz.underlying30, k1, k2, key]
  rfl
def Tryz.cntM (w : World) (b n : Nat) (f : Int → Int → Int) : Prop :=
  ∃ D : DataW Unit, w.ownsMap Tryz.prog 30 (plainElem Tryz.prog 3) b n D ∧ Maps.IsMap D ∧
    ∀ c r kl, keyOf Tryz.prog 30 (.agg #[.int .i64 c, .int .i64 r]) = some kl → D.atKey kl (.lit (.int .i64 0)) = .lit (.int .i64 (f c r))
theorem Tryz.zeroInt (w : World) : (zeroValue 3).run Tryz.prog w = .ok (.int .i64 0) w := by kernel_rfl
theorem Tryz.cntM_made (w : World) : Tryz.cntM (w.alloc (.map #[] 0)) w.heap.size 0 (fun _ _ => 0) :=
  ⟨.map [], World.ownsMap_made _ _ _ _, Maps.isMap_empty, fun _ _ _ _ => rfl⟩
theorem Tryz.cntM_look {w : World} {b n : Nat} {f : Int → Int → Int} (h : Tryz.cntM w b n f) {c r : Int} (hc : inR .i64 c) (hr : inR .i64 r) :
    (Instr.lookup 67 (.map (some b)) (.agg #[.int .i64 c, .int .i64 r]) false).run Tryz.prog w = .ok (.int .i64 (f c r)) w := by
  obtain ⟨D, hown, hm, hD⟩ := h
  obtain ⟨kl, hk⟩ := Tryz.dotKey hc hr
  obtain ⟨x, hrun, hat, hw⟩ := hown.lookup_int Tryz.dotKeyed Tryz.underlying67 Tryz.underlying3 (Tryz.zeroInt w) hk
  rw [hD c r kl hk] at hat
  cases hat
  exact hrun
theorem Tryz.cntM_store {w : World} {b n : Nat} {f : Int → Int → Int} (h : Tryz.cntM w b n f) (hn : n < maxLen) {c r v : Int} (hc : inR .i64 c) (hr : inR .i64 r) (hv : inR .i64 v) :
    ∃ (v0 : Value) (st : Nat) (w1 w2 : World), (Instr.mapEntry 67 (.map (some b)) (.agg #[.int .i64 c, .int .i64 r])).run Tryz.prog w = .ok (.tuple #[v0, .int .i64 (st : Int)]) w1 ∧
      (Instr.entryStore 67 (.map (some b)) (.int .i64 (st : Int)) (.int .i64 v)).run Tryz.prog w1 = .ok () w2 ∧
      Tryz.cntM w2 b (n + 1) (fun c' r' => if c' = c ∧ r' = r then v else f c' r') ∧ w.grownBy w2 (some b) ∧ w.grownBy w1 (some b) ∧
      (Instr.lookup 67 (.map (some b)) (.agg #[.int .i64 c, .int .i64 r]) false).run Tryz.prog w1 = .ok (.int .i64 (f c r)) w1 := by
  have hlk := Tryz.cntM_look h hc hr
  obtain ⟨D, hown, hm, hD⟩ := h
  obtain ⟨kl, hk⟩ := Tryz.dotKey hc hr
  obtain ⟨w', hrun, r1, r2⟩ := hown.update Tryz.dotKeyed Tryz.underlying67 hn hk (plainElem_int (H := Unit) (a := v) Tryz.underlying3 (wf64 hv))
  obtain ⟨es, clock, hb, F, hs, hDe⟩ := hown
  obtain ⟨v0, st, es1, clock1, h1, hv0, h3⟩ := WideElems.entry_then_store Tryz.dotLaw Tryz.underlying67 (fun u => Tryz.zeroInt u) hb F hk
  obtain ⟨es', clock', h4, h5⟩ := h3 (ChangeMaps.setBlock w b (.map es1 clock1)) (.int .i64 v) (ChangeMaps.heap_setBlock_same hb _)
  have e : w' = ChangeMaps.setBlock w b (.map es' clock') := by
    rw [h5] at hrun
    cases hrun; rfl
  subst e
  have e2 : ChangeMaps.setBlock (ChangeMaps.setBlock w b (.map es1 clock1)) b (.map es' clock') = ChangeMaps.setBlock w b (.map es' clock') := by
    simp [ChangeMaps.setBlock]
  rw [e2] at h4
  obtain ⟨hl1, hl2⟩ := entry_look Tryz.dotLaw Tryz.underlying67 (fun u => Tryz.zeroInt u) hb F.keys hk h1
  have ev : v0 = .int .i64 (f c r) := by
    rw [hl2] at hlk
    simpa using hlk
  rw [ev] at hl1
  refine ⟨v0, st, _, _, h1, h4, ⟨_, r1, hm.put _ _, fun c' r' kl' hk' => ?_⟩, r2, ⟨rfl, rfl, rfl, by simp [ChangeMaps.setBlock], fun j _ hj => ChangeMaps.heap_setBlock_other hb _ (fun e => hj (by rw [e]))⟩, hl1⟩
  show _ = DataW.lit (.int .i64 (if c' = c ∧ r' = r then v else f c' r'))
  by_cases e : c' = c ∧ r' = r
  · obtain ⟨rfl, rfl⟩ := e
    rw [hk] at hk'
    cases hk'
    rw [Maps.atKey_put_same hm (Tryz.dotKeyed.key hk), if_pos ⟨rfl, rfl⟩]
  · rw [if_neg e, Maps.atKey_put_other (fun hh => e ?_), hD c' r' kl' hk']
    subst hh
    have := Tryz.dotKeyed.inj hk' hk
    simp at this
    exact this
end Go.Proofs
