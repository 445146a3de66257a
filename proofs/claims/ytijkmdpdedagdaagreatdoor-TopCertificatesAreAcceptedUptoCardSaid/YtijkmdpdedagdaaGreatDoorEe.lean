/-
  MAPS from texts to numbers, as functions. Own work.
-/
import Derived.Test.YtijkmdpdedagdaaGreatDoorEb
import Derived.Maps.OwnSet
import Derived.Maps.OwnOps
import Derived.StringKeys
import Derived.Test.YtijkmdpdedagdaaGreatDoorEc
import Derived.Test.YtijkmdpdedagdaaGreatDoorEd
set_option linter.unusedVariables false
set_option linter.unusedSimpArgs false
namespace Go.Pi
open Go Go.RowKit Go.Maps

/-- block b is a map of at most n entries that reads as f -/
def MapI (P : Program) (k e : TypeId) (w : World) (b n : Nat) (f : List UInt8 → Option Int) : Prop :=
  ∃ D : DataW Unit, w.ownsMap P k (plainElem P e) b n D ∧ ∀ s : List UInt8, Maps.has D (.string s) = (f s).isSome ∧ D.atKey (.string s) (.lit (.int .i64 0)) = .lit (.int .i64 ((f s).getD 0))
namespace MapI
variable {P : Program} {k e t : TypeId} {w w' : World} {b n : Nat} {f : List UInt8 → Option Int}
theorem key {s : List UInt8} (hk : P.underlying k = some .string) (hs : s.length ≤ maxLen) : keyOf P k (.string ⟨s.toArray⟩) = some (.string s) := by
  have := Go.WideMaps.keyOf_string_mk (P := P) hk (s := ⟨s.toArray⟩) (by simpa [ByteArray.size] using hs)
  simpa using this
theorem made (w : World) (P : Program) (k e : TypeId) : MapI P k e (w.alloc (.map #[] 0)) w.heap.size 0 fun _ => none :=
  ⟨.map [], World.ownsMap_made w P k _, fun s => ⟨rfl, rfl⟩⟩
theorem lt (h : MapI P k e w b n f) : b < w.heap.size := by obtain ⟨D, h, _⟩ := h; exact h.lt
theorem kept {X : Nat → Prop} (h : MapI P k e w b n f) (g : GrX X w w') (hn : ¬X b) : MapI P k e w' b n f := by
  obtain ⟨D, h, hD⟩ := h
  refine ⟨D, ?_, hD⟩
  have hlt := h.lt
  obtain ⟨es, clock, hb, r⟩ := h
  exact ⟨es, clock, (g.block b hlt hn).trans hb, r⟩
theorem look (h : MapI P k e w b n f) (hk : P.underlying k = some .string) (he : P.underlying e = some (.int .i64)) (ht : P.underlying t = some (.map k e)) (hz : (zeroValue e).run P w = .ok (.int .i64 0) w) {s : List UInt8} (hs : s.length ≤ maxLen) :
    (Instr.lookup t (.map (some b)) (.string ⟨s.toArray⟩) false).run P w = .ok (.int .i64 ((f s).getD 0)) w := by
  obtain ⟨D, h, hD⟩ := h
  obtain ⟨c, h1, h2, _⟩ := h.lookup_int (string_keyed hk) ht he hz (key hk hs)
  rw [(hD s).2] at h2
  injection h2 with h2
  injection h2 with _ h2
  rw [h1, h2]
theorem lookOk (h : MapI P k e w b n f) (hk : P.underlying k = some .string) (he : P.underlying e = some (.int .i64)) (ht : P.underlying t = some (.map k e)) (hz : (zeroValue e).run P w = .ok (.int .i64 0) w) {s : List UInt8} (hs : s.length ≤ maxLen) :
    (Instr.lookup t (.map (some b)) (.string ⟨s.toArray⟩) true).run P w = .ok (.tuple #[.int .i64 ((f s).getD 0), .bool (f s).isSome]) w := by
  obtain ⟨D, h, hD⟩ := h
  obtain ⟨v, ps, h1, h2⟩ := h.look_ok (string_keyed hk) ht hz (plainElem_int he (by decide)) (key hk hs)
  rw [(hD s).2] at h2
  obtain ⟨c, rfl, hc, _⟩ := plainElem_int_inv he h2
  simp only [Prod.mk.injEq, DataW.lit.injEq, Lit.int.injEq, true_and] at hc
  rw [h1, (hD s).1, hc.1]
theorem put (h : MapI P k e w b n f) (hk : P.underlying k = some .string) (he : P.underlying e = some (.int .i64)) (ht : P.underlying t = some (.map k e)) (hn : n < maxLen) {s : List UInt8} (hs : s.length ≤ maxLen) {x : Int} (hx : (Lit.int .i64 x).wf = true) :
    ∃ w', (Instr.mapUpdate t (.map (some b)) (.string ⟨s.toArray⟩) (.int .i64 x)).run P w = .ok () w' ∧ MapI P k e w' b (n + 1) (fun z => if z = s then some x else f z) ∧ w.grownBy w' (some b) := by
  obtain ⟨D, h, hD⟩ := h
  obtain ⟨w', h1, h2, h3⟩ := h.update (string_keyed hk) ht hn (key hk hs) (plainElem_int he hx)
  refine ⟨w', h1, ⟨_, h2, fun z => ?_⟩, h3⟩
  have hm : Maps.IsMap D := h.isMap
  by_cases hz : z = s
  · subst hz
    have hkl := (string_keyed hk).key (key hk hs)
    rw [Maps.has_put_same hm hkl, Maps.atKey_put_same hm hkl]
    simp
  · have hne : Lit.string z ≠ Lit.string s := fun e => hz (by injection e)
    rw [Maps.has_put_other hne, Maps.atKey_put_other hne, (hD z).1, (hD z).2]
    simp [hz]
end MapI
end Go.Pi

/-
  The GRAPH of relations while it is built, in memory. Own work.
-/
namespace Go.Tp
open Go Go.Pi Go.RowKit
def arC (x : Ar) : List Value := [.int .i64 x.i, .int .i64 x.a, .int .i64 x.b]
def arsC (l : List Ar) : List Value := l.flatMap arC
theorem arsC_snoc (l : List Ar) (x : Ar) : arsC (l ++ [x]) = arsC l ++ arC x := by simp [arsC]
/-- a block of cells -/
def BoxV (w : World) (b e : Nat) (cs : Array Value) : Prop := w.heap[b]? = some (.cells cs e (0, 0))
namespace BoxV
variable {w w' : World} {b e : Nat} {cs : Array Value}
theorem lt (h : BoxV w b e cs) : b < w.heap.size := (Array.getElem?_eq_some_iff.1 h).1
theorem cell (h : BoxV w b e cs) {j : Nat} {v : Value} (hv : cs[j]? = some v) : w.cell? ⟨b, j, none⟩ = some v := by
  rw [Lib.cell_of_heap h]; exact hv
theorem frozen (h : BoxV w b e cs) (j : Nat) : w.frozen? ⟨b, j, none⟩ = false := frozen_of_row w b j cs e h
theorem kept {X : Nat → Prop} (h : BoxV w b e cs) (g : GrX X w w') (hn : ¬X b) : BoxV w' b e cs := (g.block b h.lt hn).trans h
theorem put (h : BoxV w b e cs) (j : Nat) (u : Value) : BoxV (w.setCell ⟨b, j, none⟩ u) b e (cs.setIfInBounds j u) ∧ GrX (fun k => k = b) w (w.setCell ⟨b, j, none⟩ u) :=
  ⟨heap_setCell_same w b j cs e u h, ⟨rfl, rfl, rfl, by simp, fun k _ hk => heap_setCell_other w ⟨b, j, none⟩ k u (fun e => hk (by simp [e]))⟩⟩
theorem ne_own {base e2 sz n : Nat} {v2 : Value} {xs : List Value} (h : BoxV w b e cs) (ho : w.ownsRow base e2 sz v2 n xs) (hne : e2 ≠ e) : v2.ownBlock ≠ some b := by
  rcases ho.2 with ⟨rfl, _⟩ | ⟨g, cap, cur, rfl, _, hg, _⟩
  · simp [Value.ownBlock]
  · simp only [Value.ownBlock, ne_eq, Option.some.injEq]
    rintro rfl
    rw [h] at hg
    cases hg
    exact hne rfl
theorem ne_box {b2 e2 : Nat} {cs2 : Array Value} (h : BoxV w b e cs) (h2 : BoxV w b2 e2 cs2) (hne : e ≠ e2) : b ≠ b2 := by
  rintro rfl
  unfold BoxV at h h2
  rw [h] at h2
  cases h2
  exact hne rfl
end BoxV
theorem _root_.Go.Pi.MapI.ne_own {P : Program} {k e : TypeId} {w : World} {b n : Nat} {f : List UInt8 → Option Int} (h : MapI P k e w b n f) {base e2 sz m : Nat} {v2 : Value} {xs : List Value} (ho : w.ownsRow base e2 sz v2 m xs) : v2.ownBlock ≠ some b := by
  obtain ⟨D, ⟨es, clock, hb, _⟩, _⟩ := h
  rcases ho.2 with ⟨rfl, _⟩ | ⟨g, cap, cur, rfl, _, hg, _⟩
  · simp [Value.ownBlock]
  · simp only [Value.ownBlock, ne_eq, Option.some.injEq]
    rintro rfl
    rw [hb] at hg
    cases hg
theorem _root_.Go.Pi.MapI.ne_box {P : Program} {k e : TypeId} {w : World} {b n : Nat} {f : List UInt8 → Option Int} (h : MapI P k e w b n f) {b2 e2 : Nat} {cs2 : Array Value} (h2 : BoxV w b2 e2 cs2) : b ≠ b2 := by
  rintro rfl
  obtain ⟨D, ⟨es, clock, hb, _⟩, _⟩ := h
  unfold BoxV at h2
  rw [hb] at h2
  cases h2
structure GraI (P : Program) (kS kI eA eN eG : Nat) (w0 W : World) (sB nB mB n : Nat) (vn va : Value) (vs : List Value) (us : List (List UInt8)) (f : List UInt8 → Option Int) (arcs : List Ar) (nx : List (List Ar)) : Prop where
  bel : Below w0.heap.size w0 W
  ls : w0.heap.size ≤ sB
  ln : w0.heap.size ≤ nB
  lm : w0.heap.size ≤ mB
  sbox : BoxV W sB eG #[vn, .map (some mB), va, .slice (some ⟨nB, 0, none⟩) us.length us.length]
  nbox : BoxV W nB eN vs.toArray
  map : MapI P kS kI W mB n f
  aown : W.ownsRow w0.heap.size eA 3 va arcs.length (arsC arcs)
  len : vs.length = us.length
  nlen : nx.length = us.length
  each : ∀ (j : Nat) (u : Value) (l : List Ar), vs[j]? = some u → nx[j]? = some l → W.ownsRow w0.heap.size eA 3 u l.length (arsC l)
  apart : ∀ (j : Nat) (u : Value) (g : Nat), vs[j]? = some u → u.ownBlock = some g → va.ownBlock ≠ some g
  dis : ∀ (j k : Nat) (u v : Value) (g : Nat), j ≠ k → vs[j]? = some u → vs[k]? = some v → u.ownBlock = some g → v.ownBlock ≠ some g
namespace GraI
variable {P : Program} {kS kI eA eN eG : Nat} {w0 W W' : World} {sB nB mB n : Nat} {vn va : Value} {vs : List Value} {us : List (List UInt8)} {f : List UInt8 → Option Int} {arcs : List Ar} {nx : List (List Ar)}
theorem kept (h : GraI P kS kI eA eN eG w0 W sB nB mB n vn va vs us f arcs nx) (g : GrX (fun _ => False) W W') : GraI P kS kI eA eN eG w0 W' sB nB mB n vn va vs us f arcs nx :=
  { h with bel := g.below h.bel (fun _ e => e.elim) h.bel.size, sbox := h.sbox.kept g id, nbox := h.nbox.kept g id, map := h.map.kept g id, aown := g.own h.aown fun _ _ e => e, each := fun j u l a b => g.own (h.each j u l a b) fun _ _ e => e }
theorem getN (h : GraI P kS kI eA eN eG w0 W sB nB mB n vn va vs us f arcs nx) {j : Nat} {u : Value} (hu : vs[j]? = some u) : ∃ l, nx[j]? = some l := by
  have := (List.getElem?_eq_some_iff.1 hu).1
  exact ⟨_, List.getElem?_eq_getElem (by rw [h.nlen, ← h.len]; exact this)⟩
/-- an arc more in the list of all -/
theorem arc (h : GraI P kS kI eA eN eG w0 W sB nB mB n vn va vs us f arcs nx) (h1 : eA ≠ eG) (h2 : eA ≠ eN) (h5 : eN ≠ eG) {W1 : World} {x : Ar} {va' : Value} (hg : W.grownBy W1 va.ownBlock) (hown : W1.ownsRow w0.heap.size eA 3 va' (arcs.length + 1) (arsC (arcs ++ [x]))) (hl : va'.ownBlock = va.ownBlock ∨ ∃ g, va'.ownBlock = some g ∧ W.heap.size ≤ g) :
    GraI P kS kI eA eN eG w0 (W1.setCell ⟨sB, 2, none⟩ va') sB nB mB n vn va' vs us f (arcs ++ [x]) nx ∧ GrX (fun b => some b = va.ownBlock ∨ b = sB) W (W1.setCell ⟨sB, 2, none⟩ va') := by
  have gx : GrX (fun b => some b = va.ownBlock) W W1 := .ofGrown hg
  have nS : ¬(some sB = va.ownBlock) := fun e => h.sbox.ne_own h.aown h1 e.symm
  have b1 := h.sbox.kept gx nS
  obtain ⟨b2, gy⟩ := b1.put 2 va'
  have gz : GrX (fun b => some b = va.ownBlock ∨ b = sB) W (W1.setCell ⟨sB, 2, none⟩ va') := (gx.mono fun b hb => .inl (.inl hb)).trans gy fun b hb => .inl (.inr hb)
  have hX : ∀ b, (some b = va.ownBlock ∨ b = sB) → w0.heap.size ≤ b := by
    rintro b (e | rfl)
    · exact (h.aown.lt b e.symm).1
    · exact h.ls
  refine ⟨{ h with bel := gz.below h.bel hX h.bel.size, sbox := b2, nbox := h.nbox.kept gz ?_, map := h.map.kept gz ?_, aown := ?_, each := ?_, apart := ?_ }, gz⟩
  · rintro (e | e)
    · exact h.nbox.ne_own h.aown h2 e.symm
    · exact h.nbox.ne_box h.sbox h5 e
  · rintro (e | e)
    · exact h.map.ne_own h.aown e.symm
    · exact h.map.ne_box h.sbox e
  · have := gy.own hown (fun k hk e => b1.ne_own hown h1 (by rw [hk, e]))
    rwa [List.length_append]
  · intro j u l hu hn
    refine gz.own (h.each j u l hu hn) fun b hb e => e.elim (fun e => h.apart j u b hu hb e.symm) (fun e => h.sbox.ne_own (h.each j u l hu hn) h1 (by rw [hb, e]))
  · intro j u g hu hb
    rcases hl with hl | ⟨k, hk, hk2⟩
    · rw [hl]; exact h.apart j u g hu hb
    · rw [hk]
      intro e
      cases e
      obtain ⟨l, hn⟩ := h.getN hu
      have := ((h.each j u l hu hn).lt _ hb).2
      omega
/-- an arc more in the list of a unit -/
theorem next (h : GraI P kS kI eA eN eG w0 W sB nB mB n vn va vs us f arcs nx) (h1 : eA ≠ eG) (h2 : eA ≠ eN) (h5 : eN ≠ eG) {a : Nat} {u u' : Value} {l : List Ar} (hu : vs[a]? = some u) (hn : nx[a]? = some l) {W1 : World} {x : Ar} (hg : W.grownBy W1 u.ownBlock) (hown : W1.ownsRow w0.heap.size eA 3 u' (l.length + 1) (arsC (l ++ [x]))) (hl : u'.ownBlock = u.ownBlock ∨ ∃ g, u'.ownBlock = some g ∧ W.heap.size ≤ g) :
    GraI P kS kI eA eN eG w0 (W1.setCell ⟨nB, a, none⟩ u') sB nB mB n vn va (vs.set a u') us f arcs (nx.set a (l ++ [x])) ∧ GrX (fun b => some b = u.ownBlock ∨ b = nB) W (W1.setCell ⟨nB, a, none⟩ u') := by
  have hw := h.each a u l hu hn
  have gx : GrX (fun b => some b = u.ownBlock) W W1 := .ofGrown hg
  have nS : ¬(some nB = u.ownBlock) := fun e => h.nbox.ne_own hw h2 e.symm
  have b1 := h.nbox.kept gx nS
  obtain ⟨b2, gy⟩ := b1.put a u'
  have gz : GrX (fun b => some b = u.ownBlock ∨ b = nB) W (W1.setCell ⟨nB, a, none⟩ u') := (gx.mono fun b hb => .inl (.inl hb)).trans gy fun b hb => .inl (.inr hb)
  have hX : ∀ b, (some b = u.ownBlock ∨ b = nB) → w0.heap.size ≤ b := by
    rintro b (e | rfl)
    · exact (hw.lt b e.symm).1
    · exact h.ln
  have hal : a < vs.length := (List.getElem?_eq_some_iff.1 hu).1
  have hanl : a < nx.length := (List.getElem?_eq_some_iff.1 hn).1
  have hfresh : ∀ {g : Nat}, u'.ownBlock = some g → ∀ {k : Nat} {v : Value}, k ≠ a → vs[k]? = some v → v.ownBlock ≠ some g := by
    intro g hb k v hk hv hvb
    obtain ⟨m, hm⟩ := h.getN hv
    rcases hl with hl | ⟨k2, hk2, hk3⟩
    · rw [hl] at hb
      exact h.dis a k u v g (fun e => hk e.symm) hu hv hb hvb
    · rw [hk2] at hb
      cases hb
      have := ((h.each k v m hv hm).lt _ hvb).2
      omega
  refine ⟨{ h with bel := gz.below h.bel hX h.bel.size, sbox := h.sbox.kept gz ?_, nbox := ?_, map := h.map.kept gz ?_, aown := gz.own h.aown ?_, len := by rw [List.length_set]; exact h.len, nlen := by rw [List.length_set]; exact h.nlen, each := ?_, apart := ?_, dis := ?_ }, gz⟩
  · rintro (e | e)
    · exact h.sbox.ne_own hw h1 e.symm
    · exact h.nbox.ne_box h.sbox h5 e.symm
  · have : vs.toArray.setIfInBounds a u' = (vs.set a u').toArray := by simp
    rw [← this]; exact b2
  · rintro (e | e)
    · exact h.map.ne_own hw e.symm
    · exact h.map.ne_box h.nbox e
  · rintro b hb (e | e)
    · exact h.apart a u b hu e.symm hb
    · exact h.nbox.ne_own h.aown h2 (by rw [hb, e])
  · intro j v m hv hm
    by_cases hj : a = j
    · subst hj
      rw [List.getElem?_set_self hal] at hv
      rw [List.getElem?_set_self hanl] at hm
      cases hv; cases hm
      have := gy.own hown (fun k hk e => b1.ne_own hown h2 (by rw [hk, e]))
      rwa [List.length_append]
    · rw [List.getElem?_set_ne hj] at hv hm
      refine gz.own (h.each j v m hv hm) fun b hb e => e.elim (fun e => h.dis a j u v b hj hu hv e.symm hb) (fun e => h.nbox.ne_own (h.each j v m hv hm) h2 (by rw [hb, e]))
  · intro j v g hv hb
    by_cases hj : a = j
    · subst hj
      rw [List.getElem?_set_self hal] at hv
      cases hv
      rcases hl with hl | ⟨k, hk, hk2⟩
      · rw [hl] at hb; exact h.apart a u g hu hb
      · rw [hk] at hb
        cases hb
        intro e
        have := (h.aown.lt _ e).2
        omega
    · rw [List.getElem?_set_ne hj] at hv
      exact h.apart j v g hv hb
  · intro j k v z g hjk hv hz hb
    by_cases hj : a = j
    · subst hj
      rw [List.getElem?_set_self hal] at hv
      rw [List.getElem?_set_ne hjk] at hz
      cases hv
      exact hfresh hb (fun e => hjk e.symm) hz
    · rw [List.getElem?_set_ne hj] at hv
      by_cases hk : a = k
      · subst hk
        rw [List.getElem?_set_self hal] at hz
        cases hz
        intro e
        exact hfresh e hjk hv hb
      · rw [List.getElem?_set_ne hk] at hz
        exact h.dis j k v z g hjk hv hz hb
/-- the graph without arcs -/
theorem start {wo : World} {vn : Value} {us : List (List UInt8)} (hbw : Below w0.heap.size w0 wo) (hmap : MapI P kS kI wo mB n f) (hbox : BoxV wo sB eG #[vn, .map (some mB), .slice none 0 0, .slice none 0 0]) (ls : w0.heap.size ≤ sB) (lm : w0.heap.size ≤ mB) (_h5 : eN ≠ eG) :
    GraI P kS kI eA eN eG w0 ((wo.setCell ⟨sB, 3, none⟩ (.slice (some ⟨wo.heap.size, 0, none⟩) us.length us.length)).alloc (.cells (Array.replicate us.length (.slice none 0 0)) eN)) sB wo.heap.size mB n vn (.slice none 0 0) (List.replicate us.length (.slice none 0 0)) us f [] (List.replicate us.length []) := by
  obtain ⟨b2, g2⟩ := hbox.put 3 (.slice (some ⟨wo.heap.size, 0, none⟩) us.length us.length)
  have hsz : (wo.setCell ⟨sB, 3, none⟩ (.slice (some ⟨wo.heap.size, 0, none⟩) us.length us.length)).heap.size = wo.heap.size := by simp
  generalize hw : wo.setCell ⟨sB, 3, none⟩ (.slice (some ⟨wo.heap.size, 0, none⟩) us.length us.length) = w1 at *
  have g1 : GrX (fun _ => False) w1 (w1.alloc (.cells (Array.replicate us.length (.slice none 0 0)) eN)) := .alloc _ _
  have nb : BoxV (w1.alloc (.cells (Array.replicate us.length (.slice none 0 0)) eN)) w1.heap.size eN (Array.replicate us.length (.slice none 0 0)) := heap_alloc_new w1 _
  rw [hsz] at nb
  have g3 := g2.trans g1 fun _ e => e.elim
  refine ⟨g3.below hbw (fun b e => by cases e; exact ls) hbw.size, ls, hbw.size, lm, b2.kept g1 id, ?_, hmap.kept g3 (hmap.ne_box hbox), World.ownsRow_nil _ _ _ _, by simp, by simp, fun j u l hu hl => ?_, fun j u g hu hb => by simp [Value.ownBlock], fun j k u v g _ hu hv hb => ?_⟩
  · rw [List.toArray_replicate]; exact nb
  · rw [List.getElem?_replicate] at hu hl
    split at hu
    · rename_i hlt
      rw [if_pos hlt] at hl
      cases hu; cases hl
      exact World.ownsRow_nil _ _ _ _
    · cases hu
  · rw [List.getElem?_replicate] at hu
    split at hu
    · cases hu; cases hb
    · cases hu
end GraI
theorem news_gen (w w' : World) (cs : Array Value) (t : TypeId) (b : Nat) (hb : b = w.heap.size) (hw : w'.heap = (w.alloc (.cells cs t)).heap) : ∀ j u, cs.toList[j]? = some u → w'.cell? ((⟨b, 0, none⟩ : Addr).add j) = some u := by
  intro j u h
  subst hb
  have := World.news_of_block (heap_alloc_new w (.cells cs t)) j u h
  unfold World.cell? at this ⊢
  rw [hw]; exact this
theorem own_gen {w w' : World} {o : Obj} {base e sz n : Nat} {v : Value} {xs : List Value} (h : w.ownsRow base e sz v n xs) (hw : w'.heap = (w.alloc o).heap) : w'.ownsRow base e sz v n xs := by
  have := h.alloc o
  unfold World.ownsRow at this ⊢
  rw [hw]; exact this
theorem gr_gen {w w' : World} {o : Obj} (h1 : w'.os = w.os) (h2 : w'.tape = w.tape) (h3 : w'.output = w.output) (hw : w'.heap = (w.alloc o).heap) : GrX (fun _ => False) w w' := by
  have h := GrX.alloc (X := fun _ => False) w o
  exact ⟨h1, h2, h3, by rw [hw]; exact h.size, fun k hk hn => by rw [hw]; exact h.block k hk hn⟩
theorem gr_drew (w : World) : GrX (fun _ => False) w w.drew := ⟨rfl, rfl, rfl, Nat.le_refl _, fun _ _ _ => rfl⟩
namespace GraI
variable {P : Program} {kS kI eA eN eG : Nat} {w0 W W' : World} {sB nB mB n : Nat} {vn va : Value} {vs : List Value} {us : List (List UInt8)} {f : List UInt8 → Option Int} {arcs : List Ar} {nx : List (List Ar)}
theorem arcA (h : GraI P kS kI eA eN eG w0 W sB nB mB n vn va vs us f arcs nx) (h1 : eA ≠ eG) (h2 : eA ≠ eN) (h5 : eN ≠ eG) {Wx W1 : World} {o : Obj} {x : Ar} {g1 c1 : Nat}
    (e1 : Wx.os = W.os) (e2 : Wx.tape = W.tape) (e3 : Wx.output = W.output) (hw : Wx.heap = (W.alloc o).heap) (hg : Wx.grownBy W1 va.ownBlock) (hown : W1.ownsRow w0.heap.size eA 3 (.slice (some ⟨g1, 0, none⟩) (arcs.length + 1) c1) (arcs.length + 1) (arsC arcs ++ [.int .i64 x.i, .int .i64 x.a, .int .i64 x.b])) (hl : va.ownBlock = some g1 ∨ g1 = Wx.heap.size) :
    (GraI P kS kI eA eN eG w0 (W1.setCell ⟨sB, 2, none⟩ (.slice (some ⟨g1, 0, none⟩) (arcs.length + 1) c1)) sB nB mB n vn (.slice (some ⟨g1, 0, none⟩) (arcs.length + 1) c1) vs us f (arcs ++ [x]) nx ∧ GrX (fun b => some b = va.ownBlock ∨ b = sB) W (W1.setCell ⟨sB, 2, none⟩ (.slice (some ⟨g1, 0, none⟩) (arcs.length + 1) c1))) ∧ BoxV W1 sB eG #[vn, .map (some mB), va, .slice (some ⟨nB, 0, none⟩) us.length us.length] := by
  have gx := gr_gen (o := o) e1 e2 e3 hw
  have hx := h.kept gx
  obtain ⟨a1, a2⟩ := hx.arc (va' := .slice (some ⟨g1, 0, none⟩) (arcs.length + 1) c1) (x := x) h1 h2 h5 hg (by rw [arsC_snoc]; exact hown) (hl.imp (fun e => e.symm) (fun e => ⟨g1, rfl, Nat.le_of_eq e.symm⟩))
  exact ⟨⟨a1, (gx.mono fun _ e => e.elim).trans a2 fun _ e => .inl e⟩, hx.sbox.kept (GrX.ofGrown hg) (fun e => hx.sbox.ne_own hx.aown h1 e.symm)⟩
theorem nextA (h : GraI P kS kI eA eN eG w0 W sB nB mB n vn va vs us f arcs nx) (h1 : eA ≠ eG) (h2 : eA ≠ eN) (h5 : eN ≠ eG) {a : Nat} {u : Value} {l : List Ar} (hu : vs[a]? = some u) (hn : nx[a]? = some l) {Wx W1 : World} {o : Obj} {x : Ar} {g1 c1 : Nat}
    (e1 : Wx.os = W.os) (e2 : Wx.tape = W.tape) (e3 : Wx.output = W.output) (hw : Wx.heap = (W.alloc o).heap) (hg : Wx.grownBy W1 u.ownBlock) (hown : W1.ownsRow w0.heap.size eA 3 (.slice (some ⟨g1, 0, none⟩) (l.length + 1) c1) (l.length + 1) (arsC l ++ [.int .i64 x.i, .int .i64 x.a, .int .i64 x.b])) (hl : u.ownBlock = some g1 ∨ g1 = Wx.heap.size) :
    (GraI P kS kI eA eN eG w0 (W1.setCell ⟨nB, a, none⟩ (.slice (some ⟨g1, 0, none⟩) (l.length + 1) c1)) sB nB mB n vn va (vs.set a (.slice (some ⟨g1, 0, none⟩) (l.length + 1) c1)) us f arcs (nx.set a (l ++ [x])) ∧ GrX (fun b => some b = u.ownBlock ∨ b = nB) W (W1.setCell ⟨nB, a, none⟩ (.slice (some ⟨g1, 0, none⟩) (l.length + 1) c1))) ∧ BoxV W1 nB eN vs.toArray ∧ GrX (fun b => some b = u.ownBlock) W W1 := by
  have gx := gr_gen (o := o) e1 e2 e3 hw
  have hx := h.kept gx
  obtain ⟨a1, a2⟩ := hx.next (u' := .slice (some ⟨g1, 0, none⟩) (l.length + 1) c1) (x := x) h1 h2 h5 hu hn hg (by rw [arsC_snoc]; exact hown) (hl.imp (fun e => e.symm) (fun e => ⟨g1, rfl, Nat.le_of_eq e.symm⟩))
  exact ⟨⟨a1, (gx.mono fun _ e => e.elim).trans a2 fun _ e => .inl e⟩, hx.nbox.kept (GrX.ofGrown hg) (fun e => hx.nbox.ne_own (hx.each a u l hu hn) h2 e.symm), (gx.mono fun _ e => e.elim).trans (GrX.ofGrown hg) fun _ e => .inl e⟩
end GraI
end Go.Tp

/-
  KAHN'S ORDER: its start; the state in memory. Own work.
-/
namespace Go.Tp
/-- how many arcs lead to a unit -/
def befF (n : Nat) (arcs : List Ar) : List Int := arcs.foldl (fun o x => o.set x.b (gz o x.b + 1)) (List.replicate n 0)
theorem bef_fold {n : Nat} : ∀ (arcs : List Ar) (o : List Int), o.length = n → (∀ x ∈ arcs, ArOk n x) → (arcs.foldl (fun o x => o.set x.b (gz o x.b + 1)) o).length = n ∧ ∀ j, j < n → gz (arcs.foldl (fun o x => o.set x.b (gz o x.b + 1)) o) j = gz o j + ((arcs.filter fun x => decide (x.b = j)).length : Int)
  | [], o, h, _ => ⟨h, fun j _ => by simp⟩
  | x :: arcs, o, h, ha => by
    have hb := (ha x (List.mem_cons_self ..)).2
    obtain ⟨h1, h2⟩ := bef_fold arcs (o.set x.b (gz o x.b + 1)) (by rw [List.length_set]; exact h) fun y hy => ha y (List.mem_cons_of_mem _ hy)
    refine ⟨h1, fun j hj => ?_⟩
    rw [List.foldl_cons, h2 j hj, gz_set (by omega), List.filter_cons]
    by_cases e : x.b = j
    · subst e; rw [if_pos rfl, if_pos (by simp), List.length_cons]; omega
    · rw [if_neg e, if_neg (by simpa using e)]
theorem gz_rep {n j : Nat} (h : j < n) : gz (List.replicate n (0 : Int)) j = 0 := by
  unfold gz; rw [List.getD_eq_getElem?_getD, List.getElem?_replicate, if_pos h]; rfl
theorem bef_gz {n : Nat} {arcs : List Ar} (ha : ∀ x ∈ arcs, ArOk n x) {j : Nat} (hj : j < n) : gz (befF n arcs) j = ((arcs.filter fun x => decide (x.b = j)).length : Int) := by
  have := (bef_fold (n := n) arcs (List.replicate n 0) (by simp) ha).2 j hj
  rw [gz_rep hj] at this
  unfold befF; rw [this]; omega
theorem bef_len {n : Nat} {arcs : List Ar} (ha : ∀ x ∈ arcs, ArOk n x) : (befF n arcs).length = n := (bef_fold (n := n) arcs (List.replicate n 0) (by simp) ha).1
def q0K (c : List Int) (k : Nat) : List Int := (List.range k).foldl (fun q i => if gz c i = 0 then pushF q i else q) []
theorem q0K_succ (c : List Int) (k : Nat) : q0K c (k + 1) = if gz c k = 0 then pushF (q0K c k) k else q0K c k := by
  unfold q0K; rw [List.range_succ, List.foldl_append]; rfl
theorem q0K_ok (c : List Int) : ∀ k, (q0K c k).Nodup ∧ (∀ x, x ∈ q0K c k ↔ ∃ j : Nat, j < k ∧ x = j ∧ gz c j = 0) ∧ (q0K c k).length ≤ k
  | 0 => ⟨by simp [q0K], fun x => by simp [q0K], by simp [q0K]⟩
  | k + 1 => by
    obtain ⟨h1, h2, h3⟩ := q0K_ok c k
    rw [q0K_succ]
    by_cases e : gz c k = 0
    · rw [if_pos e]
      have hp := pushF_perm (q0K c k) k
      refine ⟨hp.nodup_iff.2 ?_, fun x => ?_, by rw [pushF_len]; omega⟩
      · rw [List.nodup_append]
        refine ⟨h1, by simp, fun a ha b hb e2 => ?_⟩
        rw [List.mem_singleton] at hb
        subst hb; subst e2
        obtain ⟨j, hj, e3, _⟩ := (h2 _).1 ha
        omega
      · rw [hp.mem_iff, List.mem_append, List.mem_singleton, h2]
        constructor
        · rintro (⟨j, hj, hx⟩ | rfl)
          · exact ⟨j, by omega, hx⟩
          · exact ⟨k, by omega, rfl, e⟩
        · rintro ⟨j, hj, rfl, hz⟩
          by_cases hk : j = k
          · subst hk; exact .inr rfl
          · exact .inl ⟨j, by omega, rfl, hz⟩
    · rw [if_neg e]
      refine ⟨h1, fun x => ?_, by omega⟩
      rw [h2]
      constructor
      · rintro ⟨j, hj, hx⟩; exact ⟨j, by omega, hx⟩
      · rintro ⟨j, hj, rfl, hz⟩
        exact ⟨j, by
          rcases Nat.lt_or_ge j k with h | h
          · exact h
          · exact absurd (by rwa [show j = k by omega] at hz) e, rfl, hz⟩
/-- the first state -/
def s0K (n : Nat) (arcs : List Ar) : KS := ⟨befF n arcs, q0K (befF n arcs) n, []⟩
theorem KI.start {n : Nat} {arcs : List Ar} (ha : ∀ x ∈ arcs, ArOk n x) : KI n arcs (befF n arcs) (q0K (befF n arcs) n) [] [] := by
  obtain ⟨h1, h2, _⟩ := q0K_ok (befF n arcs) n
  refine ⟨bef_len ha, fun j hj => ?_, by simpa using h1, fun x hx => ?_, fun j hj => ?_⟩
  · rw [bef_gz ha hj]; simp [inA]
  · obtain ⟨j, hj, e, _⟩ := (h2 x).1 (by simpa using hx); exact ⟨j, hj, e⟩
  · simp only [List.nil_append]
    rw [h2]
    constructor
    · rintro ⟨k, _, e, hz⟩
      obtain rfl : j = k := by omega
      exact hz
    · intro hz; exact ⟨j, hj, rfl, hz⟩
/-- the order -/
def srtF (n : Nat) (arcs : List Ar) : List Int := (kloop arcs (n + 1) (s0K n arcs)).o
theorem kloop_step {n : Nat} {arcs : List Ar} (ha : ∀ x ∈ arcs, ArOk n x) {s : KS} (h : KI n arcs s.c s.q s.o []) (hq : 0 < s.q.length) : kloop arcs (n + 1) s = kloop arcs (n + 1) (kstep arcs s) := by
  conv => lhs; unfold kloop
  rw [if_neg (by omega)]
  have hl : (kstep arcs s).o.length = s.o.length + 1 := by simp [kstep]
  exact kloop_more ha _ _ _ (KI.step ha h hq) (by omega) (by omega)
theorem kloop_end {n : Nat} {arcs : List Ar} {s : KS} (hq : s.q.length = 0) : kloop arcs (n + 1) s = s := by
  unfold kloop; rw [if_pos hq]
/-- what the end is -/
theorem kloop_ki {n : Nat} {arcs : List Ar} (ha : ∀ x ∈ arcs, ArOk n x) : ∀ (f : Nat) (s : KS), KI n arcs s.c s.q s.o [] → n < f + s.o.length → KI n arcs (kloop arcs f s).c (kloop arcs f s).q (kloop arcs f s).o [] ∧ (kloop arcs f s).q = []
  | 0, s, h, h1 => by have := h.bound; omega
  | f + 1, s, h, h1 => by
    unfold kloop
    split
    · rename_i e; exact ⟨h, List.length_eq_zero_iff.1 e⟩
    · rename_i e
      have hl : (kstep arcs s).o.length = s.o.length + 1 := by simp [kstep]
      exact kloop_ki ha f _ (KI.step ha h (by omega)) (by omega)
end Go.Tp
