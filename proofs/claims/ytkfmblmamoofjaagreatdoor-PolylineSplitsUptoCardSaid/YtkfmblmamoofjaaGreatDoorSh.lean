/-
 POLYLINE: what Split has made so far, in memory. Own work.
-/
import Derived.Test.YtkfmblmamoofjaaGreatDoorSg
import Derived.Test.YtkfmblmamoofjaaGreatDoorEf
import Derived.Deep.AppendLies
import Derived.Test.YtkfmblmamoofjaaGreatDoorPj
import Derived.Test.YtkfmblmamoofjaaGreatDoorSf
import Derived.Test.YtkfmblmamoofjaaGreatDoorEe
set_option linter.unusedVariables false
set_option linter.unusedSimpArgs false
namespace Go.Proofs
open Go Go.Pi Go.RowKit Go.Shelf Go.Ar Go.Ge Go.Sp

structure SplI (eP eL eLL : Nat) (w0 W : World) (aB oB pB : Nat) (va vo vp : Value) (vs : List Value) (out : List (List Pt)) (part : List Pt) : Prop where
 bel : Below w0.heap.size w0 W
 lo : w0.heap.size ≤ oB
 lp : w0.heap.size ≤ pB
 nap : aB ≠ pB
 nao : aB ≠ oB
 nop : oB ≠ pB
 abox : Box1 W aB eL va
 obox : Box1 W oB eLL vo
 pbox : Box1 W pB eL vp
 oown : W.ownsRow w0.heap.size eL 1 vo vs.length vs
 pown : W.ownsRow w0.heap.size eP 2 vp part.length (pce part)
 len : vs.length = out.length
 one : ∀ u ∈ vs, u.oneCell' = true
 each : ∀ (k : Nat) (u : Value) (l : List Pt), vs[k]? = some u → out[k]? = some l → W.ownsRow w0.heap.size eP 2 u l.length (pce l) ∧ 0 < l.length ∧ u.ownBlock ≠ vp.ownBlock
 ob1 : vo.ownBlock ≠ some pB
 ob2 : vo.ownBlock ≠ some aB
 ppos : 0 < part.length
namespace SplI
variable {eP eL eLL : Nat} {w0 W W' : World} {aB oB pB : Nat} {va vo vp : Value} {vs : List Value} {out : List (List Pt)} {part : List Pt}
theorem below (h : SplI eP eL eLL w0 W aB oB pB va vo vp vs out part) (hb : Below W.heap.size W W') : SplI eP eL eLL w0 W' aB oB pB va vo vp vs out part := by
 have g : GrX (fun _ => False) W W' := .ofBelow hb
 have o : ∀ {base e sz n : Nat} {v : Value} {xs : List Value}, W.ownsRow base e sz v n xs → W'.ownsRow base e sz v n xs := fun ho => g.own ho fun _ _ h => h
 exact { h with bel := h.bel.trans (hb.mono h.bel.size), abox := h.abox.kept g id, obox := h.obox.kept g id, pbox := h.pbox.kept g id, oown := o h.oown, pown := o h.pown, each := fun k u l h1 h2 => ⟨o (h.each k u l h1 h2).1, (h.each k u l h1 h2).2⟩ }
theorem drew (h : SplI eP eL eLL w0 W aB oB pB va vo vp vs out part) : SplI eP eL eLL w0 W.drew aB oB pB va vo vp vs out part :=
 { h with bel := h.bel.drew, abox := h.abox, obox := h.obox, pbox := h.pbox, oown := h.oown.drew, pown := h.pown.drew, each := fun k u l h1 h2 => ⟨(h.each k u l h1 h2).1.drew, (h.each k u l h1 h2).2⟩ }
theorem pform (h : SplI eP eL eLL w0 W aB oB pB va vo vp vs out part) : ∃ g cap, vp = .slice (some ⟨g, 0, none⟩) part.length cap ∧ w0.heap.size ≤ g ∧ g < W.heap.size := h.pown.form h.ppos
/-- a point more: the append, then the store into the box -/
theorem push (h : SplI eP eL eLL w0 W aB oB pB va vo vp vs out part) (h1 : eP ≠ eL) (h2 : eP ≠ eLL) {W1 : World} {p : Pt} {vp' : Value} (hg : W.grownBy W1 vp.ownBlock) (hown : W1.ownsRow w0.heap.size eP 2 vp' (part.length + 1) (pce (part ++ [p]))) (hl : vp'.ownBlock = vp.ownBlock ∨ ∃ g, vp'.ownBlock = some g ∧ W.heap.size ≤ g) :
  SplI eP eL eLL w0 (W1.setCell ⟨pB, 0, none⟩ vp') aB oB pB va vo vp' vs out (part ++ [p]) ∧ GrX (fun b => some b = vp.ownBlock ∨ b = pB) W (W1.setCell ⟨pB, 0, none⟩ vp') := by
 obtain ⟨g, cap, hvp, hg0, hg1⟩ := h.pform
 have gx : GrX (fun b => some b = vp.ownBlock) W W1 := .ofGrown hg
 have hnb : ∀ {b e : Nat} {v : Value}, Box1 W b e v → eP ≠ e → ¬(some b = vp.ownBlock) := fun hb hne e => hb.ne_own h.pown hne e.symm
 have nO : ¬(∃ g, vo.ownBlock = some g ∧ some g = vp.ownBlock) := by
  rintro ⟨k, e1, e2⟩
  have := own_ne' h.oown (by rw [hvp] at h; exact h.pown) (g2 := g) h1.symm
  rw [hvp] at e2
  exact this (e1.trans e2)
 have b1 := h.pbox.kept gx (hnb h.pbox h1)
 obtain ⟨b2, gy⟩ := b1.put vp'
 have gz : GrX (fun b => some b = vp.ownBlock ∨ b = pB) W (W1.setCell ⟨pB, 0, none⟩ vp') := (gx.mono fun b hb => .inl (.inl hb)).trans gy fun b hb => .inl (.inr hb)
 have nA : ¬(some aB = vp.ownBlock ∨ aB = pB) := fun e => e.elim (hnb h.abox h1) h.nap
 have nB : ¬(some oB = vp.ownBlock ∨ oB = pB) := fun e => e.elim (hnb h.obox h2) h.nop
 have hX : ∀ b, (some b = vp.ownBlock ∨ b = pB) → w0.heap.size ≤ b := by
  rintro b (e | rfl)
  ·rw [hvp] at e; cases e; exact hg0
  ·exact h.lp
 refine ⟨⟨gz.below h.bel hX h.bel.size, h.lo, h.lp, h.nap, h.nao, h.nop, h.abox.kept gz nA, h.obox.kept gz nB, b2, gz.own h.oown fun k hk e => e.elim (fun e => nO ⟨k, hk, e⟩) (fun e => h.ob1 (by rw [hk, e])), ?_, h.len, h.one, ?_, h.ob1, h.ob2, by simp⟩, gz⟩
 ·have := gy.own hown (fun k hk e => b1.ne_own hown h1 (by rw [hk, e]))
  rwa [List.length_append]
 ·intro k u l hu hl'
  obtain ⟨e1, e2, e3⟩ := h.each k u l hu hl'
  refine ⟨gz.own e1 fun b hb e => e.elim (fun e => e3 (by rw [hb, e])) (fun e => h.pbox.ne_own e1 h1 (by rw [hb, e])), e2, ?_⟩
  rcases hl with hl | ⟨b, hb, hb2⟩
  ·rw [hl]; exact e3
  ·intro e
   have := (e1.lt b (e.trans hb)).2
   omega
theorem xlo (h : SplI eP eL eLL w0 W aB oB pB va vo vp vs out part) : ∀ b, (b = oB ∨ b = pB ∨ some b = vo.ownBlock) → w0.heap.size ≤ b := by
 rintro b (rfl | rfl | e)
 ·exact h.lo
 ·exact h.lp
 ·exact (h.oown.lt b e.symm).1
/-- the part is put away, the next one begins -/
theorem cut (h : SplI eP eL eLL w0 W aB oB pB va vo vp vs out part) (h1 : eP ≠ eL) (h2 : eP ≠ eLL) (h3 : eL ≠ eLL) {W1 : World} {o : Obj} {vo' : Value} (hg : (W.alloc o).grownBy W1 vo.ownBlock) (hown : W1.ownsRow w0.heap.size eL 1 vo' (vs.length + 1) (vs ++ [vp])) (hl : vo'.ownBlock = vo.ownBlock ∨ ∃ g, vo'.ownBlock = some g ∧ W.heap.size ≤ g) (q : Pt) :
  SplI eP eL eLL w0 (((W1.setCell ⟨oB, 0, none⟩ vo').alloc (.cells #[.string ⟨(rt q.1).toArray⟩, .string ⟨(rt q.2).toArray⟩] eP)).setCell ⟨pB, 0, none⟩ (.slice (some ⟨W1.heap.size, 0, none⟩) 1 1)) aB oB pB va vo' (.slice (some ⟨W1.heap.size, 0, none⟩) 1 1) (vs ++ [vp]) (out ++ [part]) [q] ∧
   GrX (fun b => b = oB ∨ b = pB ∨ some b = vo.ownBlock) W (((W1.setCell ⟨oB, 0, none⟩ vo').alloc (.cells #[.string ⟨(rt q.1).toArray⟩, .string ⟨(rt q.2).toArray⟩] eP)).setCell ⟨pB, 0, none⟩ (.slice (some ⟨W1.heap.size, 0, none⟩) 1 1)) := by
 obtain ⟨g, cap, hvp, hg0, hg1⟩ := h.pform
 have gA : GrX (fun b => some b = vo.ownBlock) W W1 := (GrX.alloc W o).trans (GrX.ofGrown hg) fun b hb => .inl hb
 have o1 : some oB ≠ vo.ownBlock := fun e => h.obox.ne_own h.oown h3 e.symm
 have o2 : some pB ≠ vo.ownBlock := fun e => h.ob1 e.symm
 have o3 : some aB ≠ vo.ownBlock := fun e => h.ob2 e.symm
 have b1 := h.obox.kept gA o1
 obtain ⟨b1', gB⟩ := b1.put vo'
 have hsz1 : (W1.setCell ⟨oB, 0, none⟩ vo').heap.size = W1.heap.size := by simp
 have gC : GrX (fun _ => False) (W1.setCell ⟨oB, 0, none⟩ vo') ((W1.setCell ⟨oB, 0, none⟩ vo').alloc (.cells #[.string ⟨(rt q.1).toArray⟩, .string ⟨(rt q.2).toArray⟩] eP)) := .alloc _ _
 have b2 := ((h.pbox.kept gA o2).kept gB (fun e => h.nop e.symm)).kept gC id
 obtain ⟨b2', gD⟩ := b2.put (.slice (some ⟨W1.heap.size, 0, none⟩) 1 1)
 have hnew : ((W1.setCell ⟨oB, 0, none⟩ vo').alloc (.cells #[.string ⟨(rt q.1).toArray⟩, .string ⟨(rt q.2).toArray⟩] eP)).heap[W1.heap.size]? = some (.cells #[.string ⟨(rt q.1).toArray⟩, .string ⟨(rt q.2).toArray⟩] eP (0, 0)) := by
  have := heap_alloc_new (W1.setCell ⟨oB, 0, none⟩ vo') (.cells #[.string ⟨(rt q.1).toArray⟩, .string ⟨(rt q.2).toArray⟩] eP)
  rwa [hsz1] at this
 have hp0 : ((W1.setCell ⟨oB, 0, none⟩ vo').alloc (.cells #[.string ⟨(rt q.1).toArray⟩, .string ⟨(rt q.2).toArray⟩] eP)).ownsRow w0.heap.size eP 2 (.slice (some ⟨W1.heap.size, 0, none⟩) 1 1) 1 (pce [q]) :=
  ⟨rfl, .inr ⟨W1.heap.size, 1, #[.string ⟨(rt q.1).toArray⟩, .string ⟨(rt q.2).toArray⟩], rfl, Nat.le_trans h.bel.size gA.size, hnew, Nat.le_refl _, by unfold maxLen; omega, rfl, rfl⟩⟩
 generalize hWc : (W1.setCell ⟨oB, 0, none⟩ vo').alloc (.cells #[.string ⟨(rt q.1).toArray⟩, .string ⟨(rt q.2).toArray⟩] eP) = Wc at *
 generalize hWd : Wc.setCell ⟨pB, 0, none⟩ (.slice (some ⟨W1.heap.size, 0, none⟩) 1 1) = Wd at *
 have gBC : GrX (fun b => b = oB) W1 Wc := gB.trans gC fun _ e => e.elim
 have gBD : GrX (fun b => b = oB ∨ b = pB) W1 Wd := (gBC.mono fun _ e => .inl (.inl e)).trans gD fun _ e => .inl (.inr e)
 have gAD : GrX (fun b => b = oB ∨ b = pB ∨ some b = vo.ownBlock) W Wd := (gA.mono fun _ e => .inl (.inr (.inr e))).trans gBD fun b e => .inl (e.elim .inl fun e => .inr (.inl e))
 have hvb : vo'.ownBlock ≠ some pB := by
  rcases hl with hl | ⟨b, hb, hb2⟩
  ·rw [hl]; exact h.ob1
  ·rw [hb]; intro e; cases e; have := h.pbox.lt; omega
 have hva : vo'.ownBlock ≠ some aB := by
  rcases hl with hl | ⟨b, hb, hb2⟩
  ·rw [hl]; exact h.ob2
  ·rw [hb]; intro e; cases e; have := h.abox.lt; omega
 have hvo : vo'.ownBlock ≠ some oB := fun e => b1.ne_own hown h3 e
 have old : ∀ {u : Value} {l : List Pt}, W.ownsRow w0.heap.size eP 2 u l.length (pce l) → 0 < l.length → Wd.ownsRow w0.heap.size eP 2 u l.length (pce l) ∧ 0 < l.length ∧ u.ownBlock ≠ some W1.heap.size := by
  intro u l hu hpos
  obtain ⟨k, c, hk, _, hk2⟩ := hu.form hpos
  refine ⟨gAD.own hu fun b hb e => ?_, hpos, fun e => ?_⟩
  ·rcases e with rfl | rfl | e
   ·exact h.obox.ne_own hu h2 hb
   ·exact h.pbox.ne_own hu h1 hb
   ·rw [hk] at hu hb
    cases hb
    exact own_ne' h.oown hu h1.symm e.symm
  ·rw [hk] at e
   have := gA.size
   have e2 : k = W1.heap.size := by simpa [Value.ownBlock] using e
   omega
 refine ⟨⟨gAD.below h.bel h.xlo h.bel.size, h.lo, h.lp, h.nap, h.nao, h.nop, h.abox.kept gAD ?_, (b1'.kept gC id).kept gD h.nop, b2', ?_, gD.own hp0 fun k hk e => ?_, by simp [h.len], ?_, ?_, hvb, hva, by simp⟩, gAD⟩
 ·rintro (e | e | e)
  ·exact h.nao e
  ·exact h.nap e
  ·exact o3 e
 ·rw [List.length_append]
  exact gBD.own hown fun k hk e => e.elim (fun e => hvo (by rw [hk, e])) (fun e => hvb (by rw [hk, e]))
 ·have e2 : W1.heap.size = k := by simpa [Value.ownBlock] using hk
  have := h.pbox.lt
  have := gA.size
  omega
 ·intro u hu
  rcases List.mem_append.1 hu with hu | hu
  ·exact h.one u hu
  ·cases List.mem_singleton.1 hu; rw [hvp]; rfl
 ·intro k u l hu hl'
  rcases Nat.lt_or_ge k vs.length with hk | hk
  ·rw [List.getElem?_append_left hk] at hu
   rw [List.getElem?_append_left (by rw [← h.len]; exact hk)] at hl'
   obtain ⟨e1, e2, _⟩ := h.each k u l hu hl'
   exact old e1 e2
  ·rw [List.getElem?_append_right hk] at hu
   rw [List.getElem?_append_right (by rw [← h.len]; exact hk)] at hl'
   have hk0 : k - vs.length = 0 := by
    have := (List.getElem?_eq_some_iff.1 hu).1
    simp at this; omega
   rw [hk0] at hu
   rw [← h.len, hk0] at hl'
   cases hu; cases hl'
   exact old h.pown h.ppos
end SplI
end Go.Proofs

/-
 POLYLINE: the closure of Split that cuts, in the plain walk. Own work.
-/
namespace Go.Proofs
open Go Go.Pi Go.RowKit Go.Shelf Go.Ar Go.Ge Go.Sp

set_option maxRecDepth 100000 in
set_option maxHeartbeats 4000000 in
theorem Tryz.qcut1 (w0 W : World) {aB oB pB : Nat} {va vo vp : Value} {vs : List Value} {out : List (List Pt)} {part : List Pt} (h : SplI 36 24 28 w0 W aB oB pB va vo vp vs out part) (hp1 : 1 < part.length) (hp : part.length ≤ 1000) (ho : out.length ≤ 1000) :
  Calls Tryz.prog 17 #[.pointer (some ⟨pB, 0, none⟩), .pointer (some ⟨oB, 0, none⟩)] W fun e W' => e = .returned (.tuple #[]) ∧
   ∃ vo' vp' vs' p, part.getLast? = some p ∧ SplI 36 24 28 w0 W' aB oB pB va vo' vp' vs' (out ++ [part]) [p] ∧ GrX (fun b => b = oB ∨ b = pB ∨ some b = vo.ownBlock) W W' ∧ ∀ b, vp'.ownBlock = some b → W.heap.size ≤ b := by
 have mixed : Tryz.prog.follows .mixedOrders = true := by kernel_rfl
 have t0 := Tryz.underlying24; have a0 := Tryz.isAgg24; have z0 := Tryz.sizeOf24; have v0 := Tryz.zeroValue24; have u0 := run_underlying Tryz.underlying24
 have t1 := Tryz.underlying36; have a1 := Tryz.isAgg36; have z1 := Tryz.sizeOf36; have v1 := Tryz.zeroValue36; have u1 := run_underlying Tryz.underlying36
 have t2 := Tryz.underlying28; have a2 := Tryz.isAgg28; have z2 := Tryz.sizeOf28; have v2 := Tryz.zeroValue28; have u2 := run_underlying Tryz.underlying28
 have t3 := Tryz.underlying4; have a3 := Tryz.isAgg4; have z3 := Tryz.sizeOf4; have v3 := Tryz.zeroValue4; have u3 := run_underlying Tryz.underlying4
 have t4 := Tryz.underlying3; have a4 := Tryz.isAgg3; have z4 := Tryz.sizeOf3; have v4 := Tryz.zeroValue3; have u4 := run_underlying Tryz.underlying3
 have hir : (Tryz.prog.info? 24).map (fun i => (i.zero, i.size, i.bytes)) = some (some (.slice none 0 0), 1, 24) := by kernel_rfl
 obtain ⟨ir, hir1, hir2, hir3, hir4⟩ := info_parts hir
 obtain ⟨g, cap, rfl, hg0, hg1⟩ := h.pform
 have hq : part[part.length - 1]? = some (part[part.length - 1]'(by omega)) := List.getElem?_eq_getElem (by omega)
 generalize part[part.length - 1]'(by omega) = q at hq
 obtain ⟨cq, cq'⟩ := cel2_at (fun p : Pt => rt p.1) (fun p : Pt => rt p.2) hq
 rw [← h.pown.cellAt _ (by omega)] at cq cq'
 have cp := h.pbox.cell
 have fp := h.pbox.frozen
 have co := h.obox.cell
 have fo := h.obox.frozen
 have HN : Hid (part[part.length - 1]? = some q) := hq
 have HL : Hid (vs.length = out.length) := h.len
 have hgt : decide ((part.length : Int) > 1) = true := decide_eq_true (by omega)
 have hgt2 : (part.length : Int) > 1 := by omega
 have n1 := h.nop
 have n2 : oB ≠ g := fun e => h.obox.ne_own h.pown (by decide) (by rw [e]; rfl)
 have n3 : pB ≠ g := fun e => h.pbox.ne_own h.pown (by decide) (by rw [e]; rfl)
 have hown := h.oown
 have hlen : vs.length ≤ 1000 := by rw [h.len]; exact ho
 have hsz := h.bel.size
 have hlt1 := h.pbox.lt
 have hlt2 := h.obox.lt
 have o1 : some oB ≠ vo.ownBlock := fun e => h.obox.ne_own h.oown (by decide) e.symm
 have o2 : some pB ≠ vo.ownBlock := fun e => h.ob1 e.symm
 have o3 : some g ≠ vo.ownBlock := fun e => own_ne' h.oown h.pown (by decide) e.symm
 have HK : Hid (∀ (o : Obj) (w1 : World), (W.alloc o).grownBy w1 vo.ownBlock → Box1 w1 oB 28 vo ∧ Box1 w1 pB 24 (.slice (some ⟨g, 0, none⟩) part.length cap) ∧ w1.ownsRow w0.heap.size 36 2 (.slice (some ⟨g, 0, none⟩) part.length cap) part.length (pce part)) := by
  intro o w1 hg
  have gz : GrX (fun b => some b = vo.ownBlock) W w1 := (GrX.alloc W o).trans (GrX.ofGrown hg) fun b hb => .inl hb
  exact ⟨h.obox.kept gz o1, h.pbox.kept gz o2, gz.own h.pown fun k hk e => by cases hk; exact o3 e⟩
 have HH : Hid (SplI 36 24 28 w0 W aB oB pB va vo (.slice (some ⟨g, 0, none⟩) part.length cap) vs out part) := h
 clear h hq
 go_enter Tryz.func17, Tryz.ntmps17
 go_wp2_with (at_builtin; refine wpList_append_lies _ rfl _ _ 28 rfl w0.heap.size 24 ir (.slice none 0 0) 1 24 Tryz.underlying28 hir1 hir2 hir3 hir4 rfl (by decide) vo vs.length vs rfl (hown.alloc _) ⟨W.heap.size, 0, none⟩ 1 1 [.slice (some ⟨g, 0, none⟩) part.length cap] rfl rfl (World.news_of_block (heap_alloc_new W _)) (by simp [Value.oneCell']) (by decide) (by unfold maxLen; omega) (by omega) (by simp; omega) _ rfl ?_; intro g1 c1 w1 ho1 hg1' hl1 hlt3; obtain ⟨q1, q2, q3⟩ := HK.out _ w1 hg1'; have q4 : ∀ V o, Box1 ((w1.setCell ⟨oB, 0, none⟩ V).alloc o) pB 24 (.slice (some ⟨g, 0, none⟩) part.length cap) := (fun V o => (q2.kept (q1.put V).2 (fun e => n1 e.symm)).kept (X := fun _ => False) (GrX.alloc _ o) id); have c7' := fun V o => (q4 V o).cell; have c8' := fun V o => (q4 V o).frozen; have c1' := q1.cell; have c2' := q1.frozen; have c3' := q2.cell; have c4' := q2.frozen; have c5' := (q3.cellAt ((part.length - 1) * 2) (by omega)).trans (cel2_at (fun p : Pt => rt p.1) (fun p : Pt => rt p.2) HN.out).1; have c6' := (q3.cellAt ((part.length - 1) * 2 + 1) (by omega)).trans (cel2_at (fun p : Pt => rt p.1) (fun p : Pt => rt p.2) HN.out).2)
 go_end0
 obtain ⟨i1, i2⟩ := HH.out.cut (by decide) (by decide) (by decide) hg1' ho1 (hl1.imp (fun e => e.symm) (fun e => ⟨g1, rfl, by rw [e]; simp⟩)) q
 refine ⟨rfl, _, _, _, q, by rw [List.getLast?_eq_getElem?]; exact HN.out, i1, i2, fun b hb => ?_⟩
 have e2 : w1.heap.size = b := by simpa [Value.ownBlock] using hb
 have := hg1'.size
 simp at this
 omega
set_option maxRecDepth 100000 in
set_option maxHeartbeats 4000000 in
theorem Tryz.qcut0 (w0 W : World) {aB oB pB : Nat} {va vo vp : Value} {vs : List Value} {out : List (List Pt)} {part : List Pt} (h : SplI 36 24 28 w0 W aB oB pB va vo vp vs out part) (hp1 : ¬1 < part.length) :
  Calls Tryz.prog 17 #[.pointer (some ⟨pB, 0, none⟩), .pointer (some ⟨oB, 0, none⟩)] W fun e W' => e = .returned (.tuple #[]) ∧ W' = W := by
 have mixed : Tryz.prog.follows .mixedOrders = true := by kernel_rfl
 have t0 := Tryz.underlying24; have a0 := Tryz.isAgg24; have z0 := Tryz.sizeOf24; have v0 := Tryz.zeroValue24; have u0 := run_underlying Tryz.underlying24
 have t3 := Tryz.underlying4; have t4 := Tryz.underlying3
 obtain ⟨g, cap, rfl, hg0, hg1⟩ := h.pform
 have cp := h.pbox.cell
 have hgt : decide ((part.length : Int) > 1) = false := decide_eq_false (by omega)
 have hgt2 : ¬(part.length : Int) > 1 := by omega
 clear h
 go_enter Tryz.func17, Tryz.ntmps17
 go_wp2
 go_end0
 exact ⟨rfl, rfl⟩
end Go.Proofs

/-
 POLYLINE: within, on, collinear, meet, crossed, simple, Check. Own work.
-/
namespace Go.Proofs
open Go Go.Pi Go.RowKit Go.Ar Go.Ge

theorem mn_swap {a b : Pt} (h : 0 < cmpP a b) : mn a b = b ∧ mx a b = a := by
 have := (cmpP_gt a b).1 h
 unfold mn mx
 rw [if_neg this, if_neg this]; exact ⟨rfl, rfl⟩
theorem mn_same {a b : Pt} (h : ¬0 < cmpP a b) : mn a b = a ∧ mx a b = b := by
 have : le a b := by rw [← cmpP_le]; omega
 unfold mn mx
 rw [if_pos this, if_pos this]; exact ⟨rfl, rfl⟩
theorem btw_mn {a b p : Pt} (h : ar a b p = 0) : btw a b p ↔ le (mn a b) p ∧ le p (mx a b) := btw_col h
theorem trn_zero {a b c : Pt} : trn a b c = 0 ↔ ar a b c = 0 := by
 unfold trn
 rw [Int.sign_eq_zero_iff_zero, Rat.num_eq_zero]
/-- how two segments meet, as data -/
def mtD : Mt → D
 | .apart => .tup [.int .i64 0, .agg [.str [], .str []]]
 | .touch p => .tup [.int .i64 1, ptD p]
 | .over => .tup [.int .i64 2, .agg [.str [], .str []]]
theorem mtD_al (m : Mt) : aliasOf (mtD m) = none := by cases m <;> rfl
theorem fin0 : resD [(8, D.int IntKind.i64 0), (9, D.box true [D.str [], D.str []])] [RV.t 8, RV.c 9 true 2] = some (mtD .apart) := by
 simp [resD_two, rvD, lk, D.plain, D.isPure, optAll, mtD, ofCells]
theorem fin1 (p : Pt) : resD [(8, D.int IntKind.i64 1), (9, D.box true [D.str (rt p.1), D.str (rt p.2)])] [RV.t 8, RV.c 9 true 2] = some (mtD (.touch p)) := by
 simp [resD_two, rvD, lk, D.plain, D.isPure, optAll, mtD, ptD, ofCells]
theorem fin2 : resD [(8, D.int IntKind.i64 2), (9, D.box true [D.str [], D.str []])] [RV.t 8, RV.c 9 true 2] = some (mtD .over) := by
 simp [resD_two, rvD, lk, D.plain, D.isPure, optAll, mtD, ofCells]
/-- segments on one line, each from its lesser end on -/
def colS (a b c d : Pt) : Mt :=
 if 0 < cmpP (if 0 < cmpP c a then c else a) (if cmpP d b < 0 then d else b) then .apart
 else if cmpP (if 0 < cmpP c a then c else a) (if cmpP d b < 0 then d else b) = 0 then .touch (if 0 < cmpP c a then c else a) else .over
theorem low_eq {a c : Pt} : (if 0 < cmpP c a then c else a) = mx a c := by
 unfold mx
 split
 ·rename_i h
  rw [cmpP_gt] at h
  rw [if_pos ((le_total a c).resolve_right h)]
 ·rename_i h
  rw [cmpP_gt, Classical.not_not] at h
  split
  ·rename_i h2; exact le_antisymm h2 h
  ·rfl
theorem high_eq {b d : Pt} : (if cmpP d b < 0 then d else b) = mn b d := by
 unfold mn
 split
 ·rename_i h
  rw [cmpP_lt] at h
  by_cases h2 : le b d
  ·exact absurd (le_antisymm h.1 h2) h.2
  ·rw [if_neg h2]
 ·rename_i h
  rw [cmpP_lt] at h
  split
  ·rfl
  ·rename_i h2
   by_cases e : d = b
   ·rw [e]
   ·exact absurd ⟨(le_total b d).resolve_left h2, e⟩ h
theorem colP_S (a b c d : Pt) : colP a b c d = colS (mn a b) (mx a b) (mn c d) (mx c d) := by
 unfold colS
 rw [low_eq, high_eq]
 show (if mx (mn a b) (mn c d) = mn (mx a b) (mx c d) then Mt.touch (mx (mn a b) (mn c d)) else if le (mx (mn a b) (mn c d)) (mn (mx a b) (mx c d)) then .over else .apart) = _
 generalize mx (mn a b) (mn c d) = x
 generalize mn (mx a b) (mx c d) = y
 by_cases e : x = y
 ·rw [if_pos e, if_neg (by rw [(cmpP_zero x y).2 e]; decide), if_pos ((cmpP_zero x y).2 e)]
 ·rw [if_neg e]
  by_cases h : le x y
  ·rw [if_pos h, if_neg (by rw [cmpP_gt]; exact fun k => k h), if_neg (fun k => e ((cmpP_zero x y).1 k))]
  ·rw [if_neg h, if_pos ((cmpP_gt x y).2 h)]
set_option maxHeartbeats 4000000 in
theorem Tryz.pcollinear (a b c d : Pt) (ha : Sz 300 a) (hb : Sz 300 b) (hc : Sz 300 c) (hd : Sz 300 d) : Con Tryz.prog Tryz.L 49 [ptD a, ptD b, ptD c, ptD d] (mtD (colP a b c d)) := by
 rw [colP_S]
 refine rule49 Tryz.hL (mtD_al _) rfl rfl ?_
 simp only [ptD, pc49, rs49, oU, oC, evX, evY, evZ, forall_const, implies_true, initE, stepF, D.clean, mvF, moF, tkF, shF, ariF, ciF, catF, scF, ebF, eqF, eqOk, eqPr, enF, notF, ngF, cvF, csF, csbF, lenF, lenSF, ixF, iaF, PX.slot, iaAF, faF, ldF, D.mem, stF, bxF, mkSF, boundF, fldF, ixAF, mmF2, D.plain, D.isPure, optAll, D.dull, callVF, splice, D.cells, D.one, sets, resT, D.flat, D.flat0, D.simple, Nat.reduceBNe, Nat.reduceLT, reduceIte, Nat.reduceEqDiff, Nat.reduceAdd, Nat.reduceMul, Nat.reduceSub, Nat.reduceLeDiff, Int.reduceToNat, Int.reduceLT, Int.reduceLE, Int.reduceEq, Int.reduceNeg, Int.reduceSub, Int.reduceAdd, Int.reduceMul, stG_own]
 refine callF_of (Tryz.pcompare a b ha hb) ?_
 (refine ev ?_; try exact ⟨⟩)
 refine ⟨fun h => ?_, fun h => ?_⟩
 ·rw [(mn_swap h).1, (mn_swap h).2]
  refine callF_of (Tryz.pcompare c d hc hd) ?_
  (refine ev ?_; try exact ⟨⟩)
  refine ⟨fun h2 => ?_, fun h2 => ?_⟩
  ·rw [(mn_swap h2).1, (mn_swap h2).2]
   refine callF_of (Tryz.pcompare d b hd hb) ?_
   (refine ev ?_; try exact ⟨⟩)
   refine ⟨fun h3 => ?_, fun h3 => ?_⟩
   ·refine callF_of (Tryz.pcompare c a hc ha) ?_
    (refine ev ?_; try exact ⟨⟩)
    refine ⟨fun h4 => ?_, fun h4 => ?_⟩
    ·refine callF_of (Tryz.pcompare d c hd hc) ?_
     (refine ev ?_; try exact ⟨⟩)
     unfold colS
     rw [if_pos h3, if_pos h4]
     refine ⟨fun h5 => ?_, fun h5 => ⟨fun h6 => ?_, fun h6 => ?_⟩⟩
     ·rw [if_pos h5]; exact fin0
     ·rw [if_neg h5, if_pos h6]; exact fin1 _
     ·rw [if_neg h5, if_neg h6]; exact fin2
    ·refine callF_of (Tryz.pcompare d a hd ha) ?_
     (refine ev ?_; try exact ⟨⟩)
     unfold colS
     rw [if_pos h3, if_neg h4]
     refine ⟨fun h5 => ?_, fun h5 => ⟨fun h6 => ?_, fun h6 => ?_⟩⟩
     ·rw [if_pos h5]; exact fin0
     ·rw [if_neg h5, if_pos h6]; exact fin1 _
     ·rw [if_neg h5, if_neg h6]; exact fin2
   ·refine callF_of (Tryz.pcompare c a hc ha) ?_
    (refine ev ?_; try exact ⟨⟩)
    refine ⟨fun h4 => ?_, fun h4 => ?_⟩
    ·refine callF_of (Tryz.pcompare b c hb hc) ?_
     (refine ev ?_; try exact ⟨⟩)
     unfold colS
     rw [if_neg h3, if_pos h4]
     refine ⟨fun h5 => ?_, fun h5 => ⟨fun h6 => ?_, fun h6 => ?_⟩⟩
     ·rw [if_pos h5]; exact fin0
     ·rw [if_neg h5, if_pos h6]; exact fin1 _
     ·rw [if_neg h5, if_neg h6]; exact fin2
    ·refine callF_of (Tryz.pcompare b a hb ha) ?_
     (refine ev ?_; try exact ⟨⟩)
     unfold colS
     rw [if_neg h3, if_neg h4]
     refine ⟨fun h5 => ?_, fun h5 => ⟨fun h6 => ?_, fun h6 => ?_⟩⟩
     ·rw [if_pos h5]; exact fin0
     ·rw [if_neg h5, if_pos h6]; exact fin1 _
     ·rw [if_neg h5, if_neg h6]; exact fin2
  ·rw [(mn_same h2).1, (mn_same h2).2]
   refine callF_of (Tryz.pcompare c b hc hb) ?_
   (refine ev ?_; try exact ⟨⟩)
   refine ⟨fun h3 => ?_, fun h3 => ?_⟩
   ·refine callF_of (Tryz.pcompare d a hd ha) ?_
    (refine ev ?_; try exact ⟨⟩)
    refine ⟨fun h4 => ?_, fun h4 => ?_⟩
    ·refine callF_of (Tryz.pcompare c d hc hd) ?_
     (refine ev ?_; try exact ⟨⟩)
     unfold colS
     rw [if_pos h3, if_pos h4]
     refine ⟨fun h5 => ?_, fun h5 => ⟨fun h6 => ?_, fun h6 => ?_⟩⟩
     ·rw [if_pos h5]; exact fin0
     ·rw [if_neg h5, if_pos h6]; exact fin1 _
     ·rw [if_neg h5, if_neg h6]; exact fin2
    ·refine callF_of (Tryz.pcompare c a hc ha) ?_
     (refine ev ?_; try exact ⟨⟩)
     unfold colS
     rw [if_pos h3, if_neg h4]
     refine ⟨fun h5 => ?_, fun h5 => ⟨fun h6 => ?_, fun h6 => ?_⟩⟩
     ·rw [if_pos h5]; exact fin0
     ·rw [if_neg h5, if_pos h6]; exact fin1 _
     ·rw [if_neg h5, if_neg h6]; exact fin2
   ·refine callF_of (Tryz.pcompare d a hd ha) ?_
    (refine ev ?_; try exact ⟨⟩)
    refine ⟨fun h4 => ?_, fun h4 => ?_⟩
    ·refine callF_of (Tryz.pcompare b d hb hd) ?_
     (refine ev ?_; try exact ⟨⟩)
     unfold colS
     rw [if_neg h3, if_pos h4]
     refine ⟨fun h5 => ?_, fun h5 => ⟨fun h6 => ?_, fun h6 => ?_⟩⟩
     ·rw [if_pos h5]; exact fin0
     ·rw [if_neg h5, if_pos h6]; exact fin1 _
     ·rw [if_neg h5, if_neg h6]; exact fin2
    ·refine callF_of (Tryz.pcompare b a hb ha) ?_
     (refine ev ?_; try exact ⟨⟩)
     unfold colS
     rw [if_neg h3, if_neg h4]
     refine ⟨fun h5 => ?_, fun h5 => ⟨fun h6 => ?_, fun h6 => ?_⟩⟩
     ·rw [if_pos h5]; exact fin0
     ·rw [if_neg h5, if_pos h6]; exact fin1 _
     ·rw [if_neg h5, if_neg h6]; exact fin2
 ·rw [(mn_same h).1, (mn_same h).2]
  refine callF_of (Tryz.pcompare c d hc hd) ?_
  (refine ev ?_; try exact ⟨⟩)
  refine ⟨fun h2 => ?_, fun h2 => ?_⟩
  ·rw [(mn_swap h2).1, (mn_swap h2).2]
   refine callF_of (Tryz.pcompare d a hd ha) ?_
   (refine ev ?_; try exact ⟨⟩)
   refine ⟨fun h3 => ?_, fun h3 => ?_⟩
   ·refine callF_of (Tryz.pcompare c b hc hb) ?_
    (refine ev ?_; try exact ⟨⟩)
    refine ⟨fun h4 => ?_, fun h4 => ?_⟩
    ·refine callF_of (Tryz.pcompare d c hd hc) ?_
     (refine ev ?_; try exact ⟨⟩)
     unfold colS
     rw [if_pos h3, if_pos h4]
     refine ⟨fun h5 => ?_, fun h5 => ⟨fun h6 => ?_, fun h6 => ?_⟩⟩
     ·rw [if_pos h5]; exact fin0
     ·rw [if_neg h5, if_pos h6]; exact fin1 _
     ·rw [if_neg h5, if_neg h6]; exact fin2
    ·refine callF_of (Tryz.pcompare d b hd hb) ?_
     (refine ev ?_; try exact ⟨⟩)
     unfold colS
     rw [if_pos h3, if_neg h4]
     refine ⟨fun h5 => ?_, fun h5 => ⟨fun h6 => ?_, fun h6 => ?_⟩⟩
     ·rw [if_pos h5]; exact fin0
     ·rw [if_neg h5, if_pos h6]; exact fin1 _
     ·rw [if_neg h5, if_neg h6]; exact fin2
   ·refine callF_of (Tryz.pcompare c b hc hb) ?_
    (refine ev ?_; try exact ⟨⟩)
    refine ⟨fun h4 => ?_, fun h4 => ?_⟩
    ·refine callF_of (Tryz.pcompare a c ha hc) ?_
     (refine ev ?_; try exact ⟨⟩)
     unfold colS
     rw [if_neg h3, if_pos h4]
     refine ⟨fun h5 => ?_, fun h5 => ⟨fun h6 => ?_, fun h6 => ?_⟩⟩
     ·rw [if_pos h5]; exact fin0
     ·rw [if_neg h5, if_pos h6]; exact fin1 _
     ·rw [if_neg h5, if_neg h6]; exact fin2
    ·refine callF_of (Tryz.pcompare a b ha hb) ?_
     (refine ev ?_; try exact ⟨⟩)
     unfold colS
     rw [if_neg h3, if_neg h4]
     refine ⟨fun h5 => ?_, fun h5 => ⟨fun h6 => ?_, fun h6 => ?_⟩⟩
     ·rw [if_pos h5]; exact fin0
     ·rw [if_neg h5, if_pos h6]; exact fin1 _
     ·rw [if_neg h5, if_neg h6]; exact fin2
  ·rw [(mn_same h2).1, (mn_same h2).2]
   refine callF_of (Tryz.pcompare c a hc ha) ?_
   (refine ev ?_; try exact ⟨⟩)
   refine ⟨fun h3 => ?_, fun h3 => ?_⟩
   ·refine callF_of (Tryz.pcompare d b hd hb) ?_
    (refine ev ?_; try exact ⟨⟩)
    refine ⟨fun h4 => ?_, fun h4 => ?_⟩
    ·refine callF_of (Tryz.pcompare c d hc hd) ?_
     (refine ev ?_; try exact ⟨⟩)
     unfold colS
     rw [if_pos h3, if_pos h4]
     refine ⟨fun h5 => ?_, fun h5 => ⟨fun h6 => ?_, fun h6 => ?_⟩⟩
     ·rw [if_pos h5]; exact fin0
     ·rw [if_neg h5, if_pos h6]; exact fin1 _
     ·rw [if_neg h5, if_neg h6]; exact fin2
    ·refine callF_of (Tryz.pcompare c b hc hb) ?_
     (refine ev ?_; try exact ⟨⟩)
     unfold colS
     rw [if_pos h3, if_neg h4]
     refine ⟨fun h5 => ?_, fun h5 => ⟨fun h6 => ?_, fun h6 => ?_⟩⟩
     ·rw [if_pos h5]; exact fin0
     ·rw [if_neg h5, if_pos h6]; exact fin1 _
     ·rw [if_neg h5, if_neg h6]; exact fin2
   ·refine callF_of (Tryz.pcompare d b hd hb) ?_
    (refine ev ?_; try exact ⟨⟩)
    refine ⟨fun h4 => ?_, fun h4 => ?_⟩
    ·refine callF_of (Tryz.pcompare a d ha hd) ?_
     (refine ev ?_; try exact ⟨⟩)
     unfold colS
     rw [if_neg h3, if_pos h4]
     refine ⟨fun h5 => ?_, fun h5 => ⟨fun h6 => ?_, fun h6 => ?_⟩⟩
     ·rw [if_pos h5]; exact fin0
     ·rw [if_neg h5, if_pos h6]; exact fin1 _
     ·rw [if_neg h5, if_neg h6]; exact fin2
    ·refine callF_of (Tryz.pcompare a b ha hb) ?_
     (refine ev ?_; try exact ⟨⟩)
     unfold colS
     rw [if_neg h3, if_neg h4]
     refine ⟨fun h5 => ?_, fun h5 => ⟨fun h6 => ?_, fun h6 => ?_⟩⟩
     ·rw [if_pos h5]; exact fin0
     ·rw [if_neg h5, if_pos h6]; exact fin1 _
     ·rw [if_neg h5, if_neg h6]; exact fin2
end Go.Proofs

/-
 POLYLINE: meet, crossed, simple, Check. Own work.
-/
namespace Go.Proofs
open Go Go.Pi Go.RowKit Go.Ar Go.Ge

theorem trn_mul (a b c d e f : Pt) : (0 < trn a b c * trn d e f ↔ 0 < ar a b c * ar d e f) := by
 unfold trn
 generalize ar a b c = x
 generalize ar d e f = y
 have sx : ∀ z : Rat, (z.num.sign = 1 ∧ 0 < z) ∨ (z.num.sign = -1 ∧ z < 0) ∨ (z.num.sign = 0 ∧ z = 0) := fun z => by
  rcases Int.lt_trichotomy z.num 0 with h | h | h
  ·exact .inr (.inl ⟨Int.sign_eq_neg_one_of_neg h, Rat.not_le.1 fun h' => by have := Rat.num_nonneg.2 h'; omega⟩)
  ·exact .inr (.inr ⟨by rw [h]; rfl, Rat.num_eq_zero.1 h⟩)
  ·refine .inl ⟨Int.sign_eq_one_of_pos h, ?_⟩
   have h3 := Rat.num_nonneg.1 (Int.le_of_lt h)
   have h4 : z ≠ 0 := fun e => by rw [e] at h; exact absurd h (by decide)
   exact Rat.not_le.1 fun h5 => h4 (Rat.le_antisymm h5 h3)
 have hp := (sgp x y)
 rcases sx x with ⟨e1, h1⟩ | ⟨e1, h1⟩ | ⟨e1, h1⟩ <;> rcases sx y with ⟨e2, h2⟩ | ⟨e2, h2⟩ | ⟨e2, h2⟩ <;> rw [e1, e2]
 ·exact ⟨fun _ => Rat.mul_pos h1 h2, fun _ => by decide⟩
 ·exact ⟨fun h => absurd h (by decide), fun h => absurd (hp.2.1 (Rat.le_of_lt h1) (Rat.le_of_lt h2)) (Rat.not_le.2 h)⟩
 ·exact ⟨fun h => absurd h (by decide), fun h => by rw [h2, Rat.mul_zero] at h; exact absurd h (by decide)⟩
 ·exact ⟨fun h => absurd h (by decide), fun h => absurd (hp.2.2.1 (Rat.le_of_lt h1) (Rat.le_of_lt h2)) (Rat.not_le.2 h)⟩
 ·exact ⟨fun _ => by have := Rat.mul_pos (show 0 < -x by grind) (show 0 < -y by grind); grind, fun _ => by decide⟩
 ·exact ⟨fun h => absurd h (by decide), fun h => by rw [h2, Rat.mul_zero] at h; exact absurd h (by decide)⟩
 ·exact ⟨fun h => absurd h (by decide), fun h => by rw [h1, Rat.zero_mul] at h; exact absurd h (by decide)⟩
 ·exact ⟨fun h => absurd h (by decide), fun h => by rw [h1, Rat.zero_mul] at h; exact absurd h (by decide)⟩
 ·exact ⟨fun h => absurd h (by decide), fun h => by rw [h1, Rat.zero_mul] at h; exact absurd h (by decide)⟩
theorem Tryz.palong (k x y : Rat) (hk : rd k ≤ 4500) (hx : rd x ≤ 30) (hy : rd y ≤ 30) : Con Tryz.prog Tryz.L 50 ([.str (rt x), .str (rt y)] ++ [.pt [.str (rt k)]]) (.str (rt (x + k * (y - x)))) := by
 have s1 := rd_sub y x
 have s2 := rd_mul k (y - x)
 refine rule50 Tryz.hL rfl rfl rfl ?_
 simp only [pc50, rs50, oU, oC, List.cons_append, List.nil_append, evX, evY, evZ, forall_const, implies_true, initE, stepF, D.clean, mvF, moF, tkF, shF, ariF, ciF, catF, scF, ebF, eqF, eqOk, eqPr, enF, notF, ngF, cvF, csF, csbF, lenF, lenSF, ixF, iaF, PX.slot, iaAF, faF, ldF, D.mem, stF, bxF, mkSF, boundF, fldF, ixAF, mmF2, D.plain, D.isPure, optAll, D.dull, callVF, splice, D.cells, D.one, sets, resT, D.flat, D.flat0, D.simple, Nat.reduceBNe, Nat.reduceLT, reduceIte, Nat.reduceEqDiff, Nat.reduceAdd, Nat.reduceMul, Nat.reduceSub, Nat.reduceLeDiff, Int.reduceToNat, Int.reduceLT, Int.reduceLE, Int.reduceEq, Int.reduceNeg, Int.reduceSub, Int.reduceAdd, Int.reduceMul, stG_own]
 refine callF_of (Tryz.rsub y x (by omega) (by omega)) ?_
 (refine ev ?_; try exact ⟨⟩)
 refine callF_of (Tryz.rmul k (y - x) (by omega) (by omega)) ?_
 (refine ev ?_; try exact ⟨⟩)
 refine callF_of (Tryz.radd x (k * (y - x)) (by omega) (by omega)) ?_
 (refine ev ?_; try exact ⟨⟩)
theorem Sz.more {k l : Nat} {p : Pt} (h : Sz k p) (hl : k ≤ l) : Sz l p := ⟨Nat.le_trans h.1 hl, Nat.le_trans h.2 hl⟩
theorem rd_ar30 {a b c : Pt} (ha : Sz 30 a) (hb : Sz 30 b) (hc : Sz 30 c) : rd (ar a b c) ≤ 245 := by
 unfold ar
 obtain ⟨a1, a2⟩ := ha
 obtain ⟨b1, b2⟩ := hb
 obtain ⟨c1, c2⟩ := hc
 have s1 := rd_sub b.1 a.1
 have s2 := rd_sub c.2 a.2
 have s3 := rd_sub b.2 a.2
 have s4 := rd_sub c.1 a.1
 have m1 := rd_mul (b.1 - a.1) (c.2 - a.2)
 have m2 := rd_mul (b.2 - a.2) (c.1 - a.1)
 have := rd_sub ((b.1 - a.1) * (c.2 - a.2)) ((b.2 - a.2) * (c.1 - a.1))
 omega
theorem trn_b (a b c : Pt) : -1 ≤ trn a b c ∧ trn a b c ≤ 1 := by
 unfold trn
 rcases Int.lt_trichotomy (ar a b c).num 0 with h | h | h
 ·rw [Int.sign_eq_neg_one_of_neg h]; decide
 ·rw [h]; decide
 ·rw [Int.sign_eq_one_of_pos h]; decide
theorem trn_prod (a b c d e f : Pt) : -1 ≤ trn a b c * trn d e f ∧ trn a b c * trn d e f ≤ 1 := by
 have h1 := trn_b a b c
 have h2 := trn_b d e f
 generalize trn a b c = x at *
 generalize trn d e f = y at *
 obtain rfl | rfl | rfl : x = -1 ∨ x = 0 ∨ x = 1 := by omega
 all_goals omega
set_option maxHeartbeats 4000000 in
theorem Tryz.pmeet (a b c d : Pt) (ha : Sz 30 a) (hb : Sz 30 b) (hc : Sz 30 c) (hd : Sz 30 d) : Con Tryz.prog Tryz.L 26 [ptD a, ptD b, ptD c, ptD d] (mtD (meetP a b c d)) := by
 have hA := ha.more (show 30 ≤ 300 by decide)
 have hB := hb.more (show 30 ≤ 300 by decide)
 have hC := hc.more (show 30 ≤ 300 by decide)
 have hD := hd.more (show 30 ≤ 300 by decide)
 have c1 := Tryz.pturn a b c hA hB hC
 have c2 := Tryz.pturn a b d hA hB hD
 have c3 := Tryz.pturn c d a hC hD hA
 have c4 := Tryz.pturn c d b hC hD hB
 have c5 := Tryz.pcollinear a b c d hA hB hC hD
 have c6 := Tryz.parea a b c hA hB hC
 have c7 := Tryz.parea a b d hA hB hD
 have r1 := rd_ar30 ha hb hc
 have r2 := rd_ar30 ha hb hd
 have r3 := rd_sub (ar a b c) (ar a b d)
 have r4 := rd_div (ar a b c) (ar a b c - ar a b d)
 have z1 := trn_zero (a := a) (b := b) (c := c)
 have z2 := trn_zero (a := a) (b := b) (c := d)
 have p1 := trn_mul a b c a b d
 have p2 := trn_mul c d a c d b
 have q1 := trn_prod a b c a b d
 have q2 := trn_prod c d a c d b
 refine rule26 Tryz.hL (mtD_al _) rfl rfl ?_
 unfold meetP
 simp only [ptD, pc26, rs26, oU, oC, evX, evY, evZ, forall_const, implies_true, initE, stepF, D.clean, mvF, moF, tkF, shF, ariF, ciF, catF, scF, ebF, eqF, eqOk, eqPr, enF, notF, ngF, cvF, csF, csbF, lenF, lenSF, ixF, iaF, PX.slot, iaAF, faF, ldF, D.mem, stF, bxF, mkSF, boundF, fldF, ixAF, mmF2, D.plain, D.isPure, optAll, D.dull, callVF, splice, D.cells, D.one, sets, resT, D.flat, D.flat0, D.simple, Nat.reduceBNe, Nat.reduceLT, reduceIte, Nat.reduceEqDiff, Nat.reduceAdd, Nat.reduceMul, Nat.reduceSub, Nat.reduceLeDiff, Int.reduceToNat, Int.reduceLT, Int.reduceLE, Int.reduceEq, Int.reduceNeg, Int.reduceSub, Int.reduceAdd, Int.reduceMul, stG_own]
 refine callF_of c1 ?_
 (refine ev ?_; try exact ⟨⟩)
 refine callF_of c2 ?_
 (refine ev ?_; try exact ⟨⟩)
 refine callF_of c3 ?_
 (refine ev ?_; try exact ⟨⟩)
 refine callF_of c4 ?_
 (refine ev ?_; try exact ⟨⟩)
 generalize trn a b c = s1 at *
 generalize trn a b d = s2 at *
 generalize trn c d a = s3 at *
 generalize trn c d b = s4 at *
 refine ⟨fun h1 => ⟨fun h2 => ?_, fun h2 => ?_⟩, fun h1 => ?_⟩
 ·rw [if_pos ⟨z1.1 h1, z2.1 h2⟩]
  generalize colP a b c d = m at *
  refine callF_of c5 ?_
  cases m with
  | apart => simp only [mtD, ptD, evX, evY, evZ, forall_const, implies_true, initE, stepF, D.clean, mvF, moF, tkF, shF, ariF, ciF, catF, scF, ebF, eqF, eqOk, eqPr, enF, notF, ngF, cvF, csF, csbF, lenF, lenSF, ixF, iaF, PX.slot, iaAF, faF, ldF, D.mem, stF, bxF, mkSF, boundF, fldF, ixAF, mmF2, D.plain, D.isPure, optAll, D.dull, callVF, splice, D.cells, D.one, sets, resT, D.flat, D.flat0, D.simple, Nat.reduceBNe, Nat.reduceLT, reduceIte, Nat.reduceEqDiff, Nat.reduceAdd, Nat.reduceMul, Nat.reduceSub, Nat.reduceLeDiff, Int.reduceToNat, Int.reduceLT, Int.reduceLE, Int.reduceEq, Int.reduceNeg, Int.reduceSub, Int.reduceAdd, Int.reduceMul, stG_own]; exact fin0
  | touch p => simp only [mtD, ptD, evX, evY, evZ, forall_const, implies_true, initE, stepF, D.clean, mvF, moF, tkF, shF, ariF, ciF, catF, scF, ebF, eqF, eqOk, eqPr, enF, notF, ngF, cvF, csF, csbF, lenF, lenSF, ixF, iaF, PX.slot, iaAF, faF, ldF, D.mem, stF, bxF, mkSF, boundF, fldF, ixAF, mmF2, D.plain, D.isPure, optAll, D.dull, callVF, splice, D.cells, D.one, sets, resT, D.flat, D.flat0, D.simple, Nat.reduceBNe, Nat.reduceLT, reduceIte, Nat.reduceEqDiff, Nat.reduceAdd, Nat.reduceMul, Nat.reduceSub, Nat.reduceLeDiff, Int.reduceToNat, Int.reduceLT, Int.reduceLE, Int.reduceEq, Int.reduceNeg, Int.reduceSub, Int.reduceAdd, Int.reduceMul, stG_own]; exact fin1 _
  | over => simp only [mtD, ptD, evX, evY, evZ, forall_const, implies_true, initE, stepF, D.clean, mvF, moF, tkF, shF, ariF, ciF, catF, scF, ebF, eqF, eqOk, eqPr, enF, notF, ngF, cvF, csF, csbF, lenF, lenSF, ixF, iaF, PX.slot, iaAF, faF, ldF, D.mem, stF, bxF, mkSF, boundF, fldF, ixAF, mmF2, D.plain, D.isPure, optAll, D.dull, callVF, splice, D.cells, D.one, sets, resT, D.flat, D.flat0, D.simple, Nat.reduceBNe, Nat.reduceLT, reduceIte, Nat.reduceEqDiff, Nat.reduceAdd, Nat.reduceMul, Nat.reduceSub, Nat.reduceLeDiff, Int.reduceToNat, Int.reduceLT, Int.reduceLE, Int.reduceEq, Int.reduceNeg, Int.reduceSub, Int.reduceAdd, Int.reduceMul, stG_own]; exact fin2
 ·have hnz : ¬(ar a b c = 0 ∧ ar a b d = 0) := fun h => h2 (z2.2 h.2)
  rw [if_neg hnz]
  have hq0 : ¬(0 < s1 * s2) → ar a b c - ar a b d ≠ 0 := fun h => (rat_sgn (fun h' => h (p1.2 h')) hnz).1
  refine ⟨⟨by omega, by omega⟩, fun hp1 => ⟨⟨by omega, by omega⟩, fun hp2 => ?_, fun hp2 => ?_⟩, fun hp1 => ?_⟩
  ·rw [if_pos (.inr (p2.1 hp2))]; exact fin0
  ·rw [if_neg (fun h => h.elim (fun h => hp1 (p1.2 h)) (fun h => hp2 (p2.2 h)))]
   refine callF_of c6 ?_
   (refine ev ?_; try exact ⟨⟩)
   refine callF_of c7 ?_
   (refine ev ?_; try exact ⟨⟩)
   refine callF_of (Tryz.rsub (ar a b c) (ar a b d) (by omega) (by omega)) ?_
   (refine ev ?_; try exact ⟨⟩)
   refine callF_of (Tryz.rdiv (ar a b c) (ar a b c - ar a b d) (by omega) (by omega) (hq0 hp1)) ?_
   (refine ev ?_; try exact ⟨⟩)
   refine callF_of (Tryz.palong (ar a b c / (ar a b c - ar a b d)) c.1 d.1 (by omega) hc.1 hd.1) ?_
   (refine ev ?_; try exact ⟨⟩)
   refine callF_of (Tryz.palong (ar a b c / (ar a b c - ar a b d)) c.2 d.2 (by omega) hc.2 hd.2) ?_
   (refine ev ?_; try exact ⟨⟩)
   exact fin1 (atK c d (ar a b c) (ar a b d))
  ·rw [if_pos (.inl (p1.1 hp1))]; exact fin0
 ·have hnz : ¬(ar a b c = 0 ∧ ar a b d = 0) := fun h => h1 (z1.2 h.1)
  rw [if_neg hnz]
  have hq0 : ¬(0 < s1 * s2) → ar a b c - ar a b d ≠ 0 := fun h => (rat_sgn (fun h' => h (p1.2 h')) hnz).1
  refine ⟨⟨by omega, by omega⟩, fun hp1 => ⟨⟨by omega, by omega⟩, fun hp2 => ?_, fun hp2 => ?_⟩, fun hp1 => ?_⟩
  ·rw [if_pos (.inr (p2.1 hp2))]; exact fin0
  ·rw [if_neg (fun h => h.elim (fun h => hp1 (p1.2 h)) (fun h => hp2 (p2.2 h)))]
   refine callF_of c6 ?_
   (refine ev ?_; try exact ⟨⟩)
   refine callF_of c7 ?_
   (refine ev ?_; try exact ⟨⟩)
   refine callF_of (Tryz.rsub (ar a b c) (ar a b d) (by omega) (by omega)) ?_
   (refine ev ?_; try exact ⟨⟩)
   refine callF_of (Tryz.rdiv (ar a b c) (ar a b c - ar a b d) (by omega) (by omega) (hq0 hp1)) ?_
   (refine ev ?_; try exact ⟨⟩)
   refine callF_of (Tryz.palong (ar a b c / (ar a b c - ar a b d)) c.1 d.1 (by omega) hc.1 hd.1) ?_
   (refine ev ?_; try exact ⟨⟩)
   refine callF_of (Tryz.palong (ar a b c / (ar a b c - ar a b d)) c.2 d.2 (by omega) hc.2 hd.2) ?_
   (refine ev ?_; try exact ⟨⟩)
   exact fin1 (atK c d (ar a b c) (ar a b d))
  ·rw [if_pos (.inl (p1.1 hp1))]; exact fin0
/-- one pair of sides: the program's test, as a bool -/
def crM (m : Mt) (n sg i k : Nat) (gi gk : Pt) : Bool :=
 match m with
 | .apart => false
 | .over => true
 | .touch p => if next n sg i k then (if k = i + 1 ∧ p = gk then false else decide (p ≠ gi ∨ k ≠ n - 1)) else true
def crB (c : List Pt) (sg i k : Nat) : Bool := crM (meetP (gt c i) (gt c ((i + 1) % c.length)) (gt c k) (gt c ((k + 1) % c.length))) c.length sg i k (gt c i) (gt c k)
theorem crB_iff (c : List Pt) (sg i k : Nat) : crB c sg i k = true ↔ crossP (gt c) c.length sg i k := by
 unfold crB crM crossP
 generalize meetP (gt c i) (gt c ((i + 1) % c.length)) (gt c k) (gt c ((k + 1) % c.length)) = m
 cases m with
 | apart => simp
 | over => simp
 | touch p =>
   by_cases h : next c.length sg i k
   ·simp only [h, if_true, not_true_eq_false, if_false]
    by_cases h2 : k = i + 1 ∧ p = gt c k
    ·rw [if_pos h2, if_pos h2]; simp
    ·rw [if_neg h2, if_neg h2, decide_eq_true_eq]
   ·simp [h]
set_option maxRecDepth 100000 in
set_option maxHeartbeats 4000000 in
theorem Tryz.pcrossed (c : List Pt) (sg i k : Nat) (hlen : c.length ≤ 400) (hs : sg ≤ c.length) (hik : i < k) (hk : k < sg) (hsz : ∀ p ∈ c, Sz 30 p) : Con Tryz.prog Tryz.L 79 [chn c, .int .i64 sg, .int .i64 i, .int .i64 k] (.bool (crB c sg i k)) := by
 have hg : ∀ j, j < c.length → c[j]? = some (gt c j) := fun j hj => by
  rw [List.getElem?_eq_getElem hj]; simp [gt, List.getD_eq_getElem?_getD, hj]
 have hz : ∀ j, j < c.length → Sz 30 (gt c j) := fun j hj => hsz _ (List.mem_of_getElem? (hg j hj))
 have hn : 0 < c.length := by omega
 have e1 : ((i : Int) + 1).tmod (c.length : Int) = (((i + 1) % c.length : Nat) : Int) := rfl
 have e2 : ((k : Int) + 1).tmod (c.length : Int) = (((k + 1) % c.length : Nat) : Int) := rfl
 have m1 : (i + 1) % c.length < c.length := Nat.mod_lt _ hn
 have m2 : (k + 1) % c.length < c.length := Nat.mod_lt _ hn
 have cm := Tryz.pmeet (gt c i) (gt c ((i + 1) % c.length)) (gt c k) (gt c ((k + 1) % c.length)) (hz _ (by omega)) (hz _ m1) (hz _ (by omega)) (hz _ m2)
 unfold crB
 generalize meetP (gt c i) (gt c ((i + 1) % c.length)) (gt c k) (gt c ((k + 1) % c.length)) = m at *
 refine rule79 Tryz.hL rfl rfl rfl ?_
 simp only [pc79, rs79, oU, oC, evX, evY, evZ, forall_const, implies_true, initE, stepF, D.clean, mvF, moF, tkF, shF, ariF, ciF, catF, scF, ebF, eqF, eqOk, eqPr, enF, notF, ngF, cvF, csF, csbF, lenF, lenSF, ixF, iaF, PX.slot, iaAF, faF, ldF, D.mem, stF, bxF, mkSF, boundF, fldF, ixAF, mmF2, D.plain, D.isPure, optAll, D.dull, callVF, splice, D.cells, D.one, sets, resT, D.flat, D.flat0, D.simple, Nat.reduceBNe, Nat.reduceLT, reduceIte, Nat.reduceEqDiff, Nat.reduceAdd, Nat.reduceMul, Nat.reduceSub, Nat.reduceLeDiff, Int.reduceToNat, Int.reduceLT, Int.reduceLE, Int.reduceEq, Int.reduceNeg, Int.reduceSub, Int.reduceAdd, Int.reduceMul, stG_own, ldC_pts]
 rw [e1, e2]
 simp only [Int.toNat_natCast]
 refine ⟨⟨by omega, by omega, by rw [pts_len]; omega⟩, _, hg i (by omega), ⟨by omega, by omega⟩, by omega, ⟨by omega, by omega, by rw [pts_len]; omega⟩, _, hg _ m1, ⟨by omega, by omega, by rw [pts_len]; omega⟩, _, hg k (by omega), ⟨by omega, by omega⟩, by omega, ⟨by omega, by omega, by rw [pts_len]; omega⟩, _, hg _ m2, ?_⟩
 refine callF_of cm ?_
 cases m with
 | apart =>
   simp only [mtD, ptD, evX, evY, evZ, forall_const, implies_true, initE, stepF, D.clean, mvF, moF, tkF, shF, ariF, ciF, catF, scF, ebF, eqF, eqOk, eqPr, enF, notF, ngF, cvF, csF, csbF, lenF, lenSF, ixF, iaF, PX.slot, iaAF, faF, ldF, D.mem, stF, bxF, mkSF, boundF, fldF, ixAF, mmF2, D.plain, D.isPure, optAll, D.dull, callVF, splice, D.cells, D.one, sets, resT, D.flat, D.flat0, D.simple, Nat.reduceBNe, Nat.reduceLT, reduceIte, Nat.reduceEqDiff, Nat.reduceAdd, Nat.reduceMul, Nat.reduceSub, Nat.reduceLeDiff, Int.reduceToNat, Int.reduceLT, Int.reduceLE, Int.reduceEq, Int.reduceNeg, Int.reduceSub, Int.reduceAdd, Int.reduceMul, stG_own, ldC_pts]
   exact ⟨⟨by omega, by omega⟩, fun _ => ⟨fun _ => ⟨fun _ => ⟨⟨by omega, by omega⟩, rfl⟩, fun _ => rfl⟩, fun _ => rfl⟩, fun _ => rfl⟩
 | over =>
   simp only [mtD, ptD, evX, evY, evZ, forall_const, implies_true, initE, stepF, D.clean, mvF, moF, tkF, shF, ariF, ciF, catF, scF, ebF, eqF, eqOk, eqPr, enF, notF, ngF, cvF, csF, csbF, lenF, lenSF, ixF, iaF, PX.slot, iaAF, faF, ldF, D.mem, stF, bxF, mkSF, boundF, fldF, ixAF, mmF2, D.plain, D.isPure, optAll, D.dull, callVF, splice, D.cells, D.one, sets, resT, D.flat, D.flat0, D.simple, Nat.reduceBNe, Nat.reduceLT, reduceIte, Nat.reduceEqDiff, Nat.reduceAdd, Nat.reduceMul, Nat.reduceSub, Nat.reduceLeDiff, Int.reduceToNat, Int.reduceLT, Int.reduceLE, Int.reduceEq, Int.reduceNeg, Int.reduceSub, Int.reduceAdd, Int.reduceMul, stG_own, ldC_pts]
   exact ⟨⟨by omega, by omega⟩, fun _ => ⟨fun _ => ⟨fun _ => ⟨⟨by omega, by omega⟩, rfl⟩, fun _ => rfl⟩, fun _ => rfl⟩, fun _ => rfl⟩
 | touch p =>
   simp only [mtD, ptD, evX, evY, evZ, forall_const, implies_true, initE, stepF, D.clean, mvF, moF, tkF, shF, ariF, ciF, catF, scF, ebF, eqF, eqOk, eqPr, enF, notF, ngF, cvF, csF, csbF, lenF, lenSF, ixF, iaF, PX.slot, iaAF, faF, ldF, D.mem, stF, bxF, mkSF, boundF, fldF, ixAF, mmF2, D.plain, D.isPure, optAll, D.dull, callVF, splice, D.cells, D.one, sets, resT, D.flat, D.flat0, D.simple, Nat.reduceBNe, Nat.reduceLT, reduceIte, Nat.reduceEqDiff, Nat.reduceAdd, Nat.reduceMul, Nat.reduceSub, Nat.reduceLeDiff, Int.reduceToNat, Int.reduceLT, Int.reduceLE, Int.reduceEq, Int.reduceNeg, Int.reduceSub, Int.reduceAdd, Int.reduceMul, stG_own, ldC_pts]
   have eqp : ∀ x : Pt, eqPr [2, 2] [D.str (rt p.1), D.str (rt p.2)] (pD x) = (p = x) := fun x => propext (eq_pt p x)
   have eqo : ∀ x : Pt, eqOk [2, 2] [D.str (rt p.1), D.str (rt p.2)] (pD x) = True := fun x => eq_true (eqOk_pt p x)
   have b1 : (-9223372036854775808 ≤ (i : Int) + 1 ∧ (i : Int) + 1 ≤ 9223372036854775807) = True := eq_true ⟨by omega, by omega⟩
   have b2 : (-9223372036854775808 ≤ (c.length : Int) - 1 ∧ (c.length : Int) - 1 ≤ 9223372036854775807) = True := eq_true ⟨by omega, by omega⟩
   have b3 : (0 ≤ (k : Int) ∧ (k : Int) < (c.length : Int) ∧ k * 2 + 2 ≤ (pts c).length) = True := eq_true ⟨by omega, by omega, by rw [pts_len]; omega⟩
   have b4 : (0 ≤ (i : Int) ∧ (i : Int) < (c.length : Int) ∧ i * 2 + 2 ≤ (pts c).length) = True := eq_true ⟨by omega, by omega, by rw [pts_len]; omega⟩
   have n1 : ((k : Int) = (i : Int) + 1) = (k = i + 1) := propext (by omega)
   have n2 : ((sg : Int) = (c.length : Int)) = (sg = c.length) := propext (by omega)
   have n3 : ((i : Int) = 0) = (i = 0) := propext (by omega)
   have n4 : ((k : Int) = (c.length : Int) - 1) = (k = c.length - 1) := propext (by omega)
   simp only [eqp, eqo, b1, b2, b3, b4, n1, n2, n3, n4, hg k (by omega), hg i (by omega), Option.some.injEq, exists_eq_left', true_and, Classical.not_not, crM, next]
   rcases Classical.propComplete (k = i + 1) with A | A <;> rcases Classical.propComplete (p = gt c k) with E | E <;> rcases Classical.propComplete (p = gt c i) with F | F <;> rcases Classical.propComplete (k = c.length - 1) with G | G <;> rcases Classical.propComplete (sg = c.length) with B | B <;> rcases Classical.propComplete (i = 0) with C | C <;> simp [A, B, C, G, E, F, dB_True, dB_False]
end Go.Proofs

/-
 POLYLINE: simple, CheckPoint, Check. Own work.
-/
namespace Go.Proofs
open Go Go.Pi Go.RowKit Go.Ar Go.Ge

set_option maxHeartbeats 4000000 in
theorem Tryz.pnumbers (x y : Rat) (hx : rd x ≤ 200) (hy : rd y ≤ 200) : Con Tryz.prog Tryz.L 52 [.sl 2 [.str (rt x), .str (rt y)]] (.int .i64 0) := by
 refine rule52 Tryz.hL rfl rfl rfl ?_
 (simp only [pc52, rs52, oU, oC]; refine ev ?_; try exact ⟨⟩)
 refine loopF_of (fun E => ∃ k : Nat, k ≤ 2 ∧ E = [(6, .sl 2 [.str (rt x), .str (rt y)]), (7, .int .i64 2), (8, .int .i64 k)])
  (fun E => match lk E 8 with | .int _ i => 2 - i.toNat | _ => 0) ⟨0, by omega, rfl⟩ ?_
 rintro _ ⟨k, hk, rfl⟩
 obtain rfl | rfl | rfl : k = 0 ∨ k = 1 ∨ k = 2 := by omega
 ·(refine ev ?_; try exact ⟨⟩)
  refine fun _ => ⟨⟨by decide, by decide⟩, ?_⟩
  refine callF_of (Tryz.rcheckQ x hx) ?_
  (refine ev ?_; try exact ⟨⟩)
  refine ⟨⟨by decide, by decide⟩, ⟨1, by omega, rfl⟩, by decide⟩
 ·(refine ev ?_; try exact ⟨⟩)
  refine fun _ => ⟨⟨by decide, by decide⟩, ?_⟩
  refine callF_of (Tryz.rcheckQ y hy) ?_
  (refine ev ?_; try exact ⟨⟩)
  refine ⟨⟨by decide, by decide⟩, ⟨2, by omega, rfl⟩, by decide⟩
 ·(refine ev ?_; try exact ⟨⟩)
  exact fun h => absurd h (by decide)
theorem Tryz.ppoint (p : Pt) (h : Sz 200 p) : Con Tryz.prog Tryz.L 29 [ptD p] (.int .i64 0) := by
 refine rule29 Tryz.hL rfl rfl rfl ?_
 simp only [ptD, pc29, rs29, oU, oC, evX, evY, evZ, forall_const, implies_true, initE, stepF, D.clean, mvF, moF, tkF, shF, ariF, ciF, catF, scF, ebF, eqF, eqOk, eqPr, enF, notF, ngF, cvF, csF, csbF, lenF, lenSF, ixF, iaF, PX.slot, iaAF, faF, ldF, D.mem, stF, bxF, mkSF, boundF, fldF, ixAF, mmF2, D.plain, D.isPure, optAll, D.dull, callVF, splice, D.cells, D.one, sets, resT, D.flat, D.flat0, D.simple, Nat.reduceBNe, Nat.reduceLT, reduceIte, Nat.reduceEqDiff, Nat.reduceAdd, Nat.reduceMul, Nat.reduceSub, Nat.reduceLeDiff, Int.reduceToNat, Int.reduceLT, Int.reduceLE, Int.reduceEq, Int.reduceNeg, Int.reduceSub, Int.reduceAdd, Int.reduceMul, stG_own]
 refine callF_of (Tryz.pnumbers p.1 p.2 h.1 h.2) ?_
 (refine ev ?_; try exact ⟨⟩)
set_option maxHeartbeats 4000000 in
theorem Tryz.psimple (c : List Pt) (sg : Nat) (hlen : c.length ≤ 400) (hs : sg ≤ c.length) (hsz : ∀ p ∈ c, Sz 30 p) : Con Tryz.prog Tryz.L 47 [chn c, .int .i64 sg] (.int .i64 (if crs c sg = true then 26 else 0)) := by
 refine rule47 Tryz.hL rfl rfl rfl ?_
 (simp only [pc47, rs47, oU, oC]; refine ev ?_; try exact ⟨⟩)
 refine loopF_of (fun E => ∃ i : Nat, i ≤ sg ∧ (∀ i' k', i' < i → i' < k' → k' < sg → ¬crossP (gt c) c.length sg i' k') ∧ E = [(0, chn c), (1, .int .i64 sg), (7, .int .i64 sg), (8, .int .i64 i)])
  (fun E => match lk E 8 with | .int _ i => sg - i.toNat | _ => 0) ⟨0, by omega, fun _ _ h => absurd h (by omega), rfl⟩ ?_
 rintro _ ⟨i, hi, hno, rfl⟩
 (refine ev ?_; try exact ⟨⟩)
 refine ⟨fun h1 => ?_, fun h1 => ?_⟩
 ·refine ⟨⟨by omega, by omega⟩, ?_⟩
  refine loopF_of (fun E => ∃ k : Nat, i < k ∧ k ≤ sg ∧ (∀ k', i < k' → k' < k → ¬crossP (gt c) c.length sg i k') ∧ E = [(0, chn c), (1, .int .i64 sg), (5, .int .i64 i), (6, .int .i64 k), (7, .int .i64 sg), (8, .int .i64 i)])
   (fun E => match lk E 6 with | .int _ i => sg - i.toNat | _ => 0) ⟨i + 1, by omega, by omega, fun k' h2 h3 => absurd h3 (by omega), rfl⟩ ?_
  rintro _ ⟨k, hik, hk, hno2, rfl⟩
  (refine ev ?_; try exact ⟨⟩)
  refine ⟨fun h2 => ?_, fun h2 => ?_⟩
  ·refine callF_of (Tryz.pcrossed c sg i k hlen hs hik (by omega) hsz) ?_
   (refine ev ?_; try exact ⟨⟩)
   cases hb : crB c sg i k with
   | true =>
     (refine ev ?_; try exact ⟨⟩)
     rw [if_pos (crs_iff.2 ⟨i, k, hik, by omega, (crB_iff c sg i k).1 hb⟩)]
   | false =>
     (refine ev ?_; try exact ⟨⟩)
     refine ⟨⟨by omega, by omega⟩, ⟨k + 1, by omega, by omega, fun k' h3 h4 => ?_, rfl⟩, by omega⟩
     by_cases e : k' = k
     ·rw [e]; intro h5; rw [(crB_iff c sg i k).2 h5] at hb; cases hb
     ·exact hno2 k' h3 (by omega)
  ·refine ⟨⟨by omega, by omega⟩, ⟨i + 1, by omega, fun i' k' h3 h4 h5 => ?_, rfl⟩, by omega⟩
   by_cases e : i' = i
   ·rw [e] at h4 ⊢; exact hno2 k' h4 (by omega)
   ·exact hno i' k' (by omega) h4 h5
 ·rw [if_neg (fun h => by obtain ⟨i', k', h3, h4, h5⟩ := crs_iff.1 h; exact hno i' k' (by omega) h3 h4 h5)]
set_option maxHeartbeats 4000000 in
theorem Tryz.pcheckL (c : List Pt) (hlen : c.length ≤ 1000) (hsz : ∀ p ∈ c, Sz 30 p) : Con Tryz.prog Tryz.L 25 [chn c] (.int .i64 (chkN c false)) := by
 refine rule25 Tryz.hL rfl rfl rfl ?_
 (simp only [pc25, rs25, oU, oC]; refine ev ?_; try exact ⟨⟩)
 have hg : ∀ j, j < c.length → c[j]? = some (gt c j) := fun j hj => by
  rw [List.getElem?_eq_getElem hj]; simp [gt, List.getD_eq_getElem?_getD, hj]
 have hsg : segs c false = c.length - 1 := rfl
 unfold chkN
 rw [hsg]
 simp only [Bool.false_eq_true, if_false]
 refine ⟨fun h => by rw [if_pos (by omega)], fun h => ⟨fun h2 => by rw [if_neg (by omega), if_pos (by omega)], fun h2 => ?_⟩⟩
 rw [if_neg (by omega), if_neg (by omega)]
 refine loopF_of (fun E => ∃ i : Nat, i ≤ c.length ∧ (∀ j, j + 1 < i → gt c j ≠ gt c (j + 1)) ∧ E = [(0, chn c), (13, chn c), (14, .int .i64 c.length), (15, .int .i64 i)])
  (fun E => match lk E 15 with | .int _ i => c.length - i.toNat | _ => 0) ⟨0, by omega, fun _ h => absurd h (by omega), rfl⟩ ?_
 rintro _ ⟨i, hi, hno, rfl⟩
 simp only [evX, evY, evZ, forall_const, implies_true, initE, stepF, D.clean, mvF, moF, tkF, shF, ariF, ciF, catF, scF, ebF, eqF, eqOk, eqPr, enF, notF, ngF, cvF, csF, csbF, lenF, lenSF, ixF, iaF, PX.slot, iaAF, faF, ldF, D.mem, stF, bxF, mkSF, boundF, fldF, ixAF, mmF2, D.plain, D.isPure, optAll, D.dull, callVF, splice, D.cells, D.one, sets, resT, D.flat, D.flat0, D.simple, Nat.reduceBNe, Nat.reduceLT, reduceIte, Nat.reduceEqDiff, Nat.reduceAdd, Nat.reduceMul, Nat.reduceSub, Nat.reduceLeDiff, Int.reduceToNat, Int.reduceLT, Int.reduceLE, Int.reduceEq, Int.reduceNeg, Int.reduceSub, Int.reduceAdd, Int.reduceMul, stG_own, ldC_pts]
 refine ⟨fun h1 => ?_, fun h1 => ?_⟩
 ·refine ⟨⟨by omega, by omega, by rw [pts_len]; omega⟩, _, hg i (by omega), ?_⟩
  have hz : Sz 200 (gt c i) := (hsz _ (List.mem_of_getElem? (hg i (by omega)))).more (by decide)
  have hcp := Tryz.ppoint (gt c i) hz
  generalize hx : gt c i = x at *
  simp only [pD, evX, evY, evZ, forall_const, implies_true, initE, stepF, D.clean, mvF, moF, tkF, shF, ariF, ciF, catF, scF, ebF, eqF, eqOk, eqPr, enF, notF, ngF, cvF, csF, csbF, lenF, lenSF, ixF, iaF, PX.slot, iaAF, faF, ldF, D.mem, stF, bxF, mkSF, boundF, fldF, ixAF, mmF2, D.plain, D.isPure, optAll, D.dull, callVF, splice, D.cells, D.one, sets, resT, D.flat, D.flat0, D.simple, Nat.reduceBNe, Nat.reduceLT, reduceIte, Nat.reduceEqDiff, Nat.reduceAdd, Nat.reduceMul, Nat.reduceSub, Nat.reduceLeDiff, Int.reduceToNat, Int.reduceLT, Int.reduceLE, Int.reduceEq, Int.reduceNeg, Int.reduceSub, Int.reduceAdd, Int.reduceMul, stG_own]
  refine callF_of hcp ?_
  simp only [evX, evY, evZ, forall_const, implies_true, initE, stepF, D.clean, mvF, moF, tkF, shF, ariF, ciF, catF, scF, ebF, eqF, eqOk, eqPr, enF, notF, ngF, cvF, csF, csbF, lenF, lenSF, ixF, iaF, PX.slot, iaAF, faF, ldF, D.mem, stF, bxF, mkSF, boundF, fldF, ixAF, mmF2, D.plain, D.isPure, optAll, D.dull, callVF, splice, D.cells, D.one, sets, resT, D.flat, D.flat0, D.simple, Nat.reduceBNe, Nat.reduceLT, reduceIte, Nat.reduceEqDiff, Nat.reduceAdd, Nat.reduceMul, Nat.reduceSub, Nat.reduceLeDiff, Int.reduceToNat, Int.reduceLT, Int.reduceLE, Int.reduceEq, Int.reduceNeg, Int.reduceSub, Int.reduceAdd, Int.reduceMul, stG_own, ldC_pts]
  refine ⟨fun h3 => ?_, fun h3 => ⟨⟨by omega, by omega⟩, ⟨i + 1, by omega, fun j hj => absurd hj (by omega), by simp⟩, by omega⟩⟩
  have e1 : ((i : Int) - 1).toNat = i - 1 := by omega
  refine ⟨⟨by omega, by omega⟩, ⟨by omega, by omega, by rw [pts_len]; omega⟩, gt c (i - 1), by rw [e1]; exact hg _ (by omega), eqOk_pt _ x, fun h4 => ?_, fun h4 => ⟨⟨by omega, by omega⟩, ⟨i + 1, by omega, fun j hj => ?_, by simp⟩, by omega⟩⟩
  ·have h5 := (eq_pt (gt c (i - 1)) x).1 h4
   rw [if_pos (dbl_iff.2 ⟨i - 1, by omega, by rw [show (i - 1 + 1) % c.length = i by rw [Nat.mod_eq_of_lt (by omega)]; omega, hx]; exact h5⟩)]
  ·by_cases e : j + 1 = i
   ·intro h5
    have e2 : j = i - 1 := by omega
    rw [e, hx, e2] at h5
    exact h4 ((eq_pt _ x).2 h5)
   ·exact hno j (by omega)
 ·have e : i = c.length := by omega
  subst e
  have hnd : ¬dbl c (c.length - 1) = true := fun h3 => by
   obtain ⟨j, h4, h5⟩ := dbl_iff.1 h3
   rw [Nat.mod_eq_of_lt (by omega)] at h5
   exact hno j (by omega) h5
  rw [if_neg hnd]
  have e1 : (c.length : Int) - 1 = ((c.length - 1 : Nat) : Int) := by omega
  rw [e1]
  refine ⟨⟨by omega, by omega⟩, ?_⟩
  refine callF_of (Tryz.psimple c (c.length - 1) (by omega) (by omega) hsz) ?_
  (refine ev ?_; try exact ⟨⟩)
theorem Tryz.cuClone : ∀ c, Tryz.f31.body = some c → ∀ q ∈ cusL c pc31, CusOk Tryz.prog Tryz.L q.1 q.2.1 q.2.2 := by
 intro c hc q hq
 cases Option.some.inj hc
 simp only [pc31, cusL, List.nil_append, List.append_nil, List.mem_singleton, List.cons_append] at hq
 subst hq
 exact nilT_ok rfl rfl rfl rfl rfl rfl rfl Tryz.underlying24 (by decide) (by decide) (by decide)
theorem Tryz.pclone (l : List Pt) (hl : l.length ≤ 1000) : Con Tryz.prog Tryz.L 31 [chn l] (.own true 36 l.length (pts l)) := by
 refine rule31 Tryz.hL (fun q hq => by simp [PC.backs, pc31] at hq) Tryz.cuClone rfl rfl rfl ?_
 simp only [pc31, rs31, oU, oC, nilT_f, evX, evY, evZ, forall_const, implies_true, initE, stepF, D.clean, mvF, moF, tkF, shF, ariF, ciF, catF, scF, ebF, eqF, eqOk, eqPr, enF, notF, ngF, cvF, csF, csbF, lenF, lenSF, ixF, iaF, PX.slot, iaAF, faF, ldF, D.mem, stF, bxF, mkSF, boundF, fldF, ixAF, mmF2, D.plain, D.isPure, optAll, D.dull, callVF, splice, D.cells, D.one, sets, resT, D.flat, D.flat0, D.simple, Nat.reduceBNe, Nat.reduceLT, reduceIte, Nat.reduceEqDiff, Nat.reduceAdd, Nat.reduceMul, Nat.reduceSub, Nat.reduceLeDiff, Int.reduceToNat, Int.reduceLT, Int.reduceLE, Int.reduceEq, Int.reduceNeg, Int.reduceSub, Int.reduceAdd, Int.reduceMul, stG_own]
 refine ⟨l.length, pts l, rfl, fun b hb0 => ?_⟩
 cases b
 ·(refine ev ?_; try exact ⟨⟩)
  exact ⟨pts_len _, by omega, by omega⟩
 ·have : l = [] := List.eq_nil_of_length_eq_zero (hb0 rfl)
  subst this
  (refine ev ?_; try exact ⟨⟩)
  rfl
end Go.Proofs

/-
 POLYLINE: the law's between, meet. Own work.
-/
namespace Go.Proofs
open Go Go.Pi Go.RowKit Go.Ar Go.Ge

theorem ldC_ptsO {l : List Pt} {k t : Nat} {N : EP} {E : Env} : ldC true 2 (List.drop (k * 2) (pts l)) t N E = (∃ x, l[k]? = some x ∧ N (st1 E t (.agg (pD x)))) := by
 unfold ldC
 cases h : l[k]? with
 | none =>
   have hk : l.length ≤ k := by simpa using h
   have e : List.drop (k * 2) (pts l) = [] := by rw [List.drop_eq_nil_of_le (by rw [rows_length pD_len]; omega)]
   rw [e]; simp [ofCells]
 | some x =>
   rw [ofCells_rows pD_len h]
   simp
theorem trn_sg {a b c : Pt} : ((ar a b c).num.sign = 0) = (ar a b c = 0) := propext trn_zero
set_option maxHeartbeats 4000000 in
theorem Tryz.lbetween (a b p : Pt) (ha : Sz 300 a) (hb : Sz 300 b) (hp : Sz 300 p) : Con Tryz.prog Tryz.L 9 [ptD a, ptD b, ptD p] (.bool (decide (btw a b p))) := by
 have r1 := rd_ar ha hb hp
 refine rule9 Tryz.hL rfl rfl rfl ?_
 simp only [ptD, pc9, rs9, oU, oC, evX, evY, evZ, forall_const, implies_true, initE, stepF, D.clean, mvF, moF, tkF, shF, ariF, ciF, catF, scF, ebF, eqF, eqOk, eqPr, enF, notF, ngF, cvF, csF, csbF, lenF, lenSF, ixF, iaF, PX.slot, iaAF, faF, ldF, D.mem, stF, bxF, mkSF, boundF, fldF, ixAF, mmF2, D.plain, D.isPure, optAll, D.dull, callVF, splice, D.cells, D.one, sets, resT, D.flat, D.flat0, D.simple, Nat.reduceBNe, Nat.reduceLT, reduceIte, Nat.reduceEqDiff, Nat.reduceAdd, Nat.reduceMul, Nat.reduceSub, Nat.reduceLeDiff, Int.reduceToNat, Int.reduceLT, Int.reduceLE, Int.reduceEq, Int.reduceNeg, Int.reduceSub, Int.reduceAdd, Int.reduceMul, stG_own]
 refine callF_of (Tryz.lcompare a b ha hb) ?_
 (refine ev ?_; try exact ⟨⟩)
 refine ⟨fun h => ?_, fun h => ?_⟩
 ·refine callF_of (Tryz.larea a b p ha hb hp) ?_
  (refine ev ?_; try exact ⟨⟩)
  refine callF_of (Tryz.rsign _ (by omega)) ?_
  (refine ev ?_; try exact ⟨⟩)
  refine ⟨fun h0 => ?_, fun h0 => by rw [trn_sg] at h0; rw [decide_eq_false (fun k => h0 k.1)]⟩
  rw [trn_sg] at h0
  have hB : btw a b p ↔ le b p ∧ le p a := by rw [btw_mn h0, (mn_swap h).1, (mn_swap h).2]
  rw [decide_eq_decide.2 hB]
  refine callF_of (Tryz.lcompare b p hb hp) ?_
  (refine ev ?_; try exact ⟨⟩)
  refine ⟨fun h1 => ?_, fun h1 => by rw [cmpP_le] at h1; simp [h1]⟩
  have h2 := (cmpP_le _ _).1 h1
  have hD : dB (cmpP p a ≤ 0) = decide (le b p ∧ le p a) := by rw [cmpP_le, dB_dec]; simp [h2]
  refine callF_of (Tryz.lcompare p a hp ha) ?_
  (refine ev ?_; try exact ⟨⟩)
  rw [hD]
 ·refine callF_of (Tryz.larea a b p ha hb hp) ?_
  (refine ev ?_; try exact ⟨⟩)
  refine callF_of (Tryz.rsign _ (by omega)) ?_
  (refine ev ?_; try exact ⟨⟩)
  refine ⟨fun h0 => ?_, fun h0 => by rw [trn_sg] at h0; rw [decide_eq_false (fun k => h0 k.1)]⟩
  rw [trn_sg] at h0
  have hB : btw a b p ↔ le a p ∧ le p b := by rw [btw_mn h0, (mn_same h).1, (mn_same h).2]
  rw [decide_eq_decide.2 hB]
  refine callF_of (Tryz.lcompare a p ha hp) ?_
  (refine ev ?_; try exact ⟨⟩)
  refine ⟨fun h1 => ?_, fun h1 => by rw [cmpP_le] at h1; simp [h1]⟩
  have h2 := (cmpP_le _ _).1 h1
  have hD : dB (cmpP p b ≤ 0) = decide (le a p ∧ le p b) := by rw [cmpP_le, dB_dec]; simp [h2]
  refine callF_of (Tryz.lcompare p b hp hb) ?_
  (refine ev ?_; try exact ⟨⟩)
  rw [hD]
/-- what the law's meet returns -/
def lmO (a b c d : Pt) : List Pt → D
 | [] => if 0 ≤ ar c d a * ar c d b ∨ 0 ≤ ar a b c * ar a b d then mtD .apart else mtD (.touch (atK a b (ar c d a) (ar c d b)))
 | [x] => mtD (.touch x)
 | x :: _ :: _ => .tup [.int .i64 2, ptD x]
def lmD (a b c d : Pt) : D := lmO a b c d (onB a b c d [a, b, c, d])
theorem lmO_al (a b c d : Pt) (l : List Pt) : aliasOf (lmO a b c d l) = none := by
 match l with
 | [] => show aliasOf (if _ then _ else _) = none; split <;> exact mtD_al _
 | [x] => show aliasOf (mtD (.touch x)) = none; rfl
 | x :: y :: l => rfl
theorem lmD_al (a b c d : Pt) : aliasOf (lmD a b c d) = none := lmO_al ..
theorem fin2' (p : Pt) : resD [(8, D.int IntKind.i64 2), (9, D.box true [D.str (rt p.1), D.str (rt p.2)])] [RV.t 8, RV.c 9 true 2] = some (.tup [.int .i64 2, ptD p]) := by
 simp [resD_two, rvD, lk, D.plain, D.isPure, optAll, ptD, ofCells]
theorem sgn_mul0 (x y : Rat) : 0 ≤ x.num.sign * y.num.sign ↔ 0 ≤ x * y := by
 have sx : ∀ z : Rat, (z.num.sign = 1 ∧ 0 < z) ∨ (z.num.sign = -1 ∧ z < 0) ∨ (z.num.sign = 0 ∧ z = 0) := fun z => by
  rcases Int.lt_trichotomy z.num 0 with h | h | h
  ·exact .inr (.inl ⟨Int.sign_eq_neg_one_of_neg h, Rat.not_le.1 fun h' => by have := Rat.num_nonneg.2 h'; omega⟩)
  ·exact .inr (.inr ⟨by rw [h]; rfl, Rat.num_eq_zero.1 h⟩)
  ·refine .inl ⟨Int.sign_eq_one_of_pos h, ?_⟩
   have h3 := Rat.num_nonneg.1 (Int.le_of_lt h)
   have h4 : z ≠ 0 := fun e => by rw [e] at h; exact absurd h (by decide)
   exact Rat.not_le.1 fun h5 => h4 (Rat.le_antisymm h5 h3)
 rcases sx x with ⟨e1, h1⟩ | ⟨e1, h1⟩ | ⟨e1, h1⟩ <;> rcases sx y with ⟨e2, h2⟩ | ⟨e2, h2⟩ | ⟨e2, h2⟩ <;> rw [e1, e2]
 ·exact ⟨fun _ => Rat.le_of_lt (Rat.mul_pos h1 h2), fun _ => by decide⟩
 ·exact ⟨fun h => absurd h (by decide), fun h => by have := Rat.mul_pos h1 (show 0 < -y by grind); grind⟩
 ·exact ⟨fun _ => by rw [h2, Rat.mul_zero]; exact Rat.le_refl, fun _ => by decide⟩
 ·exact ⟨fun h => absurd h (by decide), fun h => by have := Rat.mul_pos (show 0 < -x by grind) h2; grind⟩
 ·exact ⟨fun _ => by have := Rat.mul_pos (show 0 < -x by grind) (show 0 < -y by grind); grind, fun _ => by decide⟩
 ·exact ⟨fun _ => by rw [h2, Rat.mul_zero]; exact Rat.le_refl, fun _ => by decide⟩
 ·exact ⟨fun _ => by rw [h1, Rat.zero_mul]; exact Rat.le_refl, fun _ => by decide⟩
 ·exact ⟨fun _ => by rw [h1, Rat.zero_mul]; exact Rat.le_refl, fun _ => by decide⟩
 ·exact ⟨fun _ => by rw [h1, Rat.zero_mul]; exact Rat.le_refl, fun _ => by decide⟩
theorem ldC_ptsO0 {l : List Pt} {t : Nat} {N : EP} {E : Env} : ldC true 2 (pts l) t N E = (∃ x, l[0]? = some x ∧ N (st1 E t (.agg (pD x)))) := ldC_ptsO (l := l) (k := 0)
set_option maxRecDepth 100000 in
set_option maxHeartbeats 4000000 in
theorem Tryz.lmeet (a b c d : Pt) (ha : Sz 30 a) (hb : Sz 30 b) (hc : Sz 30 c) (hd : Sz 30 d) : Con Tryz.prog Tryz.L 16 [ptD a, ptD b, ptD c, ptD d] (lmD a b c d) := by
 refine rule16 Tryz.hL (lmD_al a b c d) rfl rfl ?_
 simp only [ptD, pc16, rs16, oU, oC, evX, evY, evZ, forall_const, implies_true, initE, stepF, D.clean, mvF, moF, tkF, shF, ariF, ciF, catF, scF, ebF, eqF, eqOk, eqPr, enF, notF, ngF, cvF, csF, csbF, lenF, lenSF, ixF, iaF, PX.slot, iaAF, faF, ldF, D.mem, stF, bxF, mkSF, boundF, fldF, ixAF, mmF2, D.plain, D.isPure, optAll, D.dull, callVF, splice, D.cells, D.one, sets, resT, D.flat, D.flat0, D.simple, Nat.reduceBNe, Nat.reduceLT, reduceIte, Nat.reduceEqDiff, Nat.reduceAdd, Nat.reduceMul, Nat.reduceSub, Nat.reduceLeDiff, Int.reduceToNat, Int.reduceLT, Int.reduceLE, Int.reduceEq, Int.reduceNeg, Int.reduceSub, Int.reduceAdd, Int.reduceMul, stG_own]
 have hl4 : ∃ l4 : List Pt, l4 = [a, b, c, d] := ⟨_, rfl⟩
 obtain ⟨l4, hl4⟩ := hl4
 have hlen : l4.length = 4 := by rw [hl4]; rfl
 have hz4 : ∀ x ∈ l4, Sz 300 x := fun x hx => by
  rw [hl4] at hx
  simp only [List.mem_cons, List.not_mem_nil, or_false] at hx
  rcases hx with rfl | rfl | rfl | rfl
  ·exact ha.more (by decide)
  ·exact hb.more (by decide)
  ·exact hc.more (by decide)
  ·exact hd.more (by decide)
 have hA := ha.more (show 30 ≤ 300 by decide)
 have hB := hb.more (show 30 ≤ 300 by decide)
 have hC := hc.more (show 30 ≤ 300 by decide)
 have hD := hd.more (show 30 ≤ 300 by decide)
 refine loopF_of (fun E => ∃ (k : Nat) (o : List Pt), k ≤ 4 ∧ o = onB a b c d (l4.take k) ∧ o.length ≤ k ∧ E = [(4, .box true [.str (rt a.1), .str (rt a.2)]), (5, .box true [.str (rt b.1), .str (rt b.2)]), (6, .box true [.str (rt c.1), .str (rt c.2)]), (7, .box true [.str (rt d.1), .str (rt d.2)]), (9, .box true [.str [], .str []]), (10, .own true 36 o.length (pts o)), (27, .own true 36 4 (pts l4)), (28, .int .i64 4), (29, .int .i64 k)])
  (fun E => match lk E 29 with | .int _ i => 4 - i.toNat | _ => 0) ⟨0, [], by omega, rfl, Nat.le_refl _, by rw [hl4]; rfl⟩ ?_
 rintro _ ⟨k, o, hk, ho, hol, rfl⟩
 simp only [evX, evY, evZ, forall_const, implies_true, initE, stepF, D.clean, mvF, moF, tkF, shF, ariF, ciF, catF, scF, ebF, eqF, eqOk, eqPr, enF, notF, ngF, cvF, csF, csbF, lenF, lenSF, ixF, iaF, PX.slot, iaAF, faF, ldF, D.mem, stF, bxF, mkSF, boundF, fldF, ixAF, mmF2, D.plain, D.isPure, optAll, D.dull, callVF, splice, D.cells, D.one, sets, resT, D.flat, D.flat0, D.simple, Nat.reduceBNe, Nat.reduceLT, reduceIte, Nat.reduceEqDiff, Nat.reduceAdd, Nat.reduceMul, Nat.reduceSub, Nat.reduceLeDiff, Int.reduceToNat, Int.reduceLT, Int.reduceLE, Int.reduceEq, Int.reduceNeg, Int.reduceSub, Int.reduceAdd, Int.reduceMul, stG_own, ldC_ptsO]
 refine ⟨fun h1 => ?_, fun h1 => ?_⟩
 ·have hx : l4[k]? = some (l4[k]'(by omega)) := List.getElem?_eq_getElem (by omega)
  have htk : l4.take (k + 1) = l4.take k ++ [l4[k]'(by omega)] := List.take_succ_eq_append_getElem (by omega)
  generalize l4[k]'(by omega) = x at hx htk
  have zx := hz4 x (List.mem_of_getElem? hx)
  have hstep : onB a b c d (l4.take (k + 1)) = if btw a b x ∧ btw c d x then (if x ∈ o then o else o ++ [x]) else o := by
   rw [ho, htk]; unfold onB; rw [List.foldl_append]; rfl
  refine ⟨⟨by omega, by omega, by rw [pts_len]; omega⟩, x, hx, ?_⟩
  simp only [pD, evX, evY, evZ, forall_const, implies_true, initE, stepF, D.clean, mvF, moF, tkF, shF, ariF, ciF, catF, scF, ebF, eqF, eqOk, eqPr, enF, notF, ngF, cvF, csF, csbF, lenF, lenSF, ixF, iaF, PX.slot, iaAF, faF, ldF, D.mem, stF, bxF, mkSF, boundF, fldF, ixAF, mmF2, D.plain, D.isPure, optAll, D.dull, callVF, splice, D.cells, D.one, sets, resT, D.flat, D.flat0, D.simple, Nat.reduceBNe, Nat.reduceLT, reduceIte, Nat.reduceEqDiff, Nat.reduceAdd, Nat.reduceMul, Nat.reduceSub, Nat.reduceLeDiff, Int.reduceToNat, Int.reduceLT, Int.reduceLE, Int.reduceEq, Int.reduceNeg, Int.reduceSub, Int.reduceAdd, Int.reduceMul, stG_own]
  refine callF_of (Tryz.lbetween a b x hA hB zx) ?_
  cases hb1 : decide (btw a b x) with
  | false =>
    (refine ev ?_; try exact ⟨⟩)
    have hno : ¬(btw a b x ∧ btw c d x) := fun h => of_decide_eq_false hb1 h.1
    exact ⟨⟨by omega, by omega⟩, ⟨k + 1, o, by omega, by rw [hstep, if_neg hno], by omega, rfl, by simp⟩, by omega⟩
  | true =>
    (refine ev ?_; try exact ⟨⟩)
    refine callF_of (Tryz.lbetween c d x hC hD zx) ?_
    cases hb2 : decide (btw c d x) with
    | false =>
      (refine ev ?_; try exact ⟨⟩)
      have hno : ¬(btw a b x ∧ btw c d x) := fun h => of_decide_eq_false hb2 h.2
      exact ⟨⟨by omega, by omega⟩, ⟨k + 1, o, by omega, by rw [hstep, if_neg hno], by omega, rfl, by simp⟩, by omega⟩
    | true =>
      (refine ev ?_; try exact ⟨⟩)
      rw [if_pos ⟨of_decide_eq_true hb1, of_decide_eq_true hb2⟩] at hstep
      refine loopF_of (fun E => ∃ i : Nat, i ≤ o.length ∧ E = [(4, .box true [.str (rt a.1), .str (rt a.2)]), (5, .box true [.str (rt b.1), .str (rt b.2)]), (6, .box true [.str (rt c.1), .str (rt c.2)]), (7, .box true [.str (rt d.1), .str (rt d.2)]), (9, .box true [.str [], .str []]), (10, .own true 36 o.length (pts o)), (12, .box true [.str (rt x.1), .str (rt x.2)]), (13, .bool (decide (x ∈ o.take i))), (14, .int .i64 i), (27, .own true 36 4 (pts l4)), (28, .int .i64 4), (29, .int .i64 k)])
       (fun E => match lk E 14 with | .int _ i => o.length - i.toNat | _ => 0) ⟨0, by omega, rfl⟩ ?_
      rintro _ ⟨i, hi, rfl⟩
      cases hq : decide (x ∈ o.take i) with
      | true =>
        simp only [evX, evY, evZ, forall_const, implies_true, initE, stepF, D.clean, mvF, moF, tkF, shF, ariF, ciF, catF, scF, ebF, eqF, eqOk, eqPr, enF, notF, ngF, cvF, csF, csbF, lenF, lenSF, ixF, iaF, PX.slot, iaAF, faF, ldF, D.mem, stF, bxF, mkSF, boundF, fldF, ixAF, mmF2, D.plain, D.isPure, optAll, D.dull, callVF, splice, D.cells, D.one, sets, resT, D.flat, D.flat0, D.simple, Nat.reduceBNe, Nat.reduceLT, reduceIte, Nat.reduceEqDiff, Nat.reduceAdd, Nat.reduceMul, Nat.reduceSub, Nat.reduceLeDiff, Int.reduceToNat, Int.reduceLT, Int.reduceLE, Int.reduceEq, Int.reduceNeg, Int.reduceSub, Int.reduceAdd, Int.reduceMul, stG_own, ldC_ptsO]
        have hm := of_decide_eq_true hq
        have hm2 : x ∈ o.take (i + 1) := by rw [List.take_add_one]; exact List.mem_append_left _ hm
        exact ⟨fun h3 => ⟨⟨by omega, by omega⟩, ⟨i + 1, by omega, by rw [decide_eq_true hm2], by simp⟩, by omega⟩, fun h3 => ⟨⟨by omega, by omega⟩, ⟨k + 1, o, by omega, by rw [hstep, if_pos (List.mem_of_mem_take hm)], by omega, rfl, by simp⟩, by omega⟩⟩
      | false =>
        simp only [evX, evY, evZ, forall_const, implies_true, initE, stepF, D.clean, mvF, moF, tkF, shF, ariF, ciF, catF, scF, ebF, eqF, eqOk, eqPr, enF, notF, ngF, cvF, csF, csbF, lenF, lenSF, ixF, iaF, PX.slot, iaAF, faF, ldF, D.mem, stF, bxF, mkSF, boundF, fldF, ixAF, mmF2, D.plain, D.isPure, optAll, D.dull, callVF, splice, D.cells, D.one, sets, resT, D.flat, D.flat0, D.simple, Nat.reduceBNe, Nat.reduceLT, reduceIte, Nat.reduceEqDiff, Nat.reduceAdd, Nat.reduceMul, Nat.reduceSub, Nat.reduceLeDiff, Int.reduceToNat, Int.reduceLT, Int.reduceLE, Int.reduceEq, Int.reduceNeg, Int.reduceSub, Int.reduceAdd, Int.reduceMul, stG_own, ldC_ptsO]
        have hm := of_decide_eq_false hq
        refine ⟨fun h3 => ?_, fun h3 => ?_⟩
        ·have hy : o[i]? = some (o[i]'(by omega)) := List.getElem?_eq_getElem (by omega)
         generalize o[i]'(by omega) = y at hy
         have e1 : eqPr [2, 2] (pD y) [D.str (rt x.1), D.str (rt x.2)] ↔ x ∈ o.take (i + 1) := by
          rw [List.take_add_one, hy]
          refine (eq_pt y x).trans ⟨fun h => by simp [h], fun h => ?_⟩
          rcases List.mem_append.1 h with h | h
          ·exact absurd h hm
          ·have h' : x = y := by simpa using h
           exact h'.symm
         refine ⟨⟨by omega, by omega, by rw [pts_len]; omega⟩, y, hy, eqOk_pt y x, ⟨by omega, by omega⟩, ⟨i + 1, by omega, ?_, by simp⟩, by omega⟩
         rw [propext e1]; first | rfl | rw [dB_dec]
        ·have e2 : i = o.length := by omega
         rw [e2, List.take_length] at hm
         rw [if_neg hm] at hstep
         exact ⟨by omega, by omega, ⟨by omega, by omega⟩, ⟨k + 1, o ++ [x], by omega, hstep.symm, by simp; omega, by rw [pts_snoc, List.length_append]; rfl, by simp⟩, by omega⟩
 ·have e : k = 4 := by omega
  subst e
  rw [show l4.take 4 = l4 by rw [← hlen, List.take_length], hl4] at ho
  unfold lmD
  rw [← ho]
  clear ho hl4 hz4
  simp only [ldC_ptsO0]
  match o, hol with
  | x :: y :: o, hol =>
    refine ⟨fun h2 => ⟨⟨h2, by rw [pts_len]; simp; omega⟩, x, rfl, ?_⟩, fun h2 => absurd h2 (by simp; omega)⟩
    simp only [pD, evX, evY, evZ, forall_const, implies_true, initE, stepF, D.clean, mvF, moF, tkF, shF, ariF, ciF, catF, scF, ebF, eqF, eqOk, eqPr, enF, notF, ngF, cvF, csF, csbF, lenF, lenSF, ixF, iaF, PX.slot, iaAF, faF, ldF, D.mem, stF, bxF, mkSF, boundF, fldF, ixAF, mmF2, D.plain, D.isPure, optAll, D.dull, callVF, splice, D.cells, D.one, sets, resT, D.flat, D.flat0, D.simple, Nat.reduceBNe, Nat.reduceLT, reduceIte, Nat.reduceEqDiff, Nat.reduceAdd, Nat.reduceMul, Nat.reduceSub, Nat.reduceLeDiff, Int.reduceToNat, Int.reduceLT, Int.reduceLE, Int.reduceEq, Int.reduceNeg, Int.reduceSub, Int.reduceAdd, Int.reduceMul, stG_own]
    rw [show (if (2 : Int) < ((o.length + 1 + 1 : Nat) : Int) then (2 : Int) else ((o.length + 1 + 1 : Nat) : Int)) = 2 by split <;> omega]
    exact fin2' x
  | [x], _ =>
    refine ⟨fun h2 => ⟨⟨h2, by rw [pts_len]; simp⟩, x, rfl, ?_⟩, fun h2 => absurd h2 (by simp)⟩
    simp only [pD, evX, evY, evZ, forall_const, implies_true, initE, stepF, D.clean, mvF, moF, tkF, shF, ariF, ciF, catF, scF, ebF, eqF, eqOk, eqPr, enF, notF, ngF, cvF, csF, csbF, lenF, lenSF, ixF, iaF, PX.slot, iaAF, faF, ldF, D.mem, stF, bxF, mkSF, boundF, fldF, ixAF, mmF2, D.plain, D.isPure, optAll, D.dull, callVF, splice, D.cells, D.one, sets, resT, D.flat, D.flat0, D.simple, Nat.reduceBNe, Nat.reduceLT, reduceIte, Nat.reduceEqDiff, Nat.reduceAdd, Nat.reduceMul, Nat.reduceSub, Nat.reduceLeDiff, Int.reduceToNat, Int.reduceLT, Int.reduceLE, Int.reduceEq, Int.reduceNeg, Int.reduceSub, Int.reduceAdd, Int.reduceMul, stG_own]
    exact fin1 x
  | [], _ =>
    refine ⟨fun h2 => absurd h2 (by simp), fun _ => ?_⟩
    have r1 := rd_ar30 hc hd ha
    have r2 := rd_ar30 hc hd hb
    have r3 := rd_ar30 ha hb hc
    have r4 := rd_ar30 ha hb hd
    refine callF_of (Tryz.larea c d a hC hD hA) ?_
    (refine ev ?_; try exact ⟨⟩)
    refine callF_of (Tryz.larea c d b hC hD hB) ?_
    (refine ev ?_; try exact ⟨⟩)
    refine callF_of (Tryz.larea a b c hA hB hC) ?_
    (refine ev ?_; try exact ⟨⟩)
    refine callF_of (Tryz.rsign _ (by omega)) ?_
    (refine ev ?_; try exact ⟨⟩)
    refine callF_of (Tryz.larea a b d hA hB hD) ?_
    (refine ev ?_; try exact ⟨⟩)
    refine callF_of (Tryz.rsign _ (by omega)) ?_
    (refine ev ?_; try exact ⟨⟩)
    refine callF_of (Tryz.rsign _ (by omega)) ?_
    (refine ev ?_; try exact ⟨⟩)
    refine callF_of (Tryz.rsign _ (by omega)) ?_
    (refine ev ?_; try exact ⟨⟩)
    have hp1 := trn_prod c d a c d b
    have hp2 := trn_prod a b c a b d
    unfold trn at hp1 hp2
    have s3 := rd_sub (ar c d a) (ar c d b)
    have s4 := rd_div (ar c d a) (ar c d a - ar c d b)
    have b1 := ha.1; have b2 := ha.2; have b3 := hb.1; have b4 := hb.2
    have s5 := rd_sub b.1 a.1
    have s6 := rd_sub b.2 a.2
    have s7 := rd_mul (ar c d a / (ar c d a - ar c d b)) (b.1 - a.1)
    have s8 := rd_mul (ar c d a / (ar c d a - ar c d b)) (b.2 - a.2)
    have hO : lmO a b c d [] = if 0 ≤ ar c d a * ar c d b ∨ 0 ≤ ar a b c * ar a b d then mtD .apart else mtD (.touch (atK a b (ar c d a) (ar c d b))) := rfl
    rw [hO]
    clear hO
    rw [sgn_mul0, sgn_mul0]
    refine ⟨⟨by omega, by omega⟩, fun q1 => ⟨⟨by omega, by omega⟩, fun q2 => ?_, fun q2 => ?_⟩, fun q1 => ?_⟩
    ·rw [if_pos (.inr q2)]; exact fin0
    ·rw [if_neg (fun h => h.elim q1 q2)]
     have h0 : ar c d a - ar c d b ≠ 0 := fun e => q1 (by
      have e1 : ar c d a = ar c d b := by grind
      rw [e1]
      rcases Rat.le_total (a := 0) (b := ar c d b) with h | h
      ·exact Rat.mul_nonneg h h
      ·have := Rat.mul_nonneg (show 0 ≤ -ar c d b by grind) (show 0 ≤ -ar c d b by grind); grind)
     refine callF_of (Tryz.rsub _ _ (by omega) (by omega)) ?_
     (refine ev ?_; try exact ⟨⟩)
     refine callF_of (Tryz.rdiv _ _ (by omega) (by omega) h0) ?_
     (refine ev ?_; try exact ⟨⟩)
     refine callF_of (Tryz.rsub _ _ (by omega) (by omega)) ?_
     (refine ev ?_; try exact ⟨⟩)
     refine callF_of (Tryz.rmul _ _ (by omega) (by omega)) ?_
     (refine ev ?_; try exact ⟨⟩)
     refine callF_of (Tryz.radd _ _ (by omega) (by omega)) ?_
     (refine ev ?_; try exact ⟨⟩)
     refine callF_of (Tryz.rsub _ _ (by omega) (by omega)) ?_
     (refine ev ?_; try exact ⟨⟩)
     refine callF_of (Tryz.rmul _ _ (by omega) (by omega)) ?_
     (refine ev ?_; try exact ⟨⟩)
     refine callF_of (Tryz.radd _ _ (by omega) (by omega)) ?_
     (refine ev ?_; try exact ⟨⟩)
     exact fin1 (atK a b (ar c d a) (ar c d b))
    ·rw [if_pos (.inl q1)]; exact fin0
end Go.Proofs

/-
 ARITHMETIC: klipperef01: pieces of four digits: carry, joined, times, less. Own work.
-/
namespace Go.Proofs
open Go Go.Pi Go.RowKit Go.Ar

theorem Tryz.cut (l : List Int) (hl : l.length ≤ 1000000) : Con Tryz.prog Tryz.L 166 [.sl l.length (ints .i64 l)] (.sl (cutz l).length (ints .i64 (cutz l))) := by
 refine rule166 Tryz.hL rfl rfl rfl ?_
 (simp only [pc166, rs166, oU, oC]; refine ev ?_; try exact ⟨⟩)
 refine loopF_of (fun E => ∃ k : Nat, k ≤ l.length ∧ cutz l = cutz (l.take k) ∧ E = [(0, .sl k (ints .i64 (l.take k)))])
  (fun E => match lk E 0 with | .sl k _ => k | _ => 0) ⟨l.length, Nat.le_refl _, by rw [List.take_length], by rw [List.take_length]⟩ ?_
 rintro _ ⟨k, hk, hc, rfl⟩
 (refine ev ?_; try exact ⟨⟩)
 refine ⟨fun h1 => ?_, fun h1 => ?_⟩
 ·obtain ⟨n, rfl⟩ : ∃ n, k = n + 1 := ⟨k - 1, by omega⟩
  have hlen : (l.take (n + 1)).length = n + 1 := by rw [List.length_take]; omega
  have hd : (l.take (n + 1)).getD n 0 = l.getD n 0 := by
   rw [List.getD_eq_getElem?_getD, List.getD_eq_getElem?_getD, List.getElem?_take, if_pos (by omega)]
  rw [show (((n + 1 : Nat) : Int) - 1).toNat = n by omega, hlen, hd]
  refine ⟨by omega, by omega, by omega, fun h2 => ?_, fun h2 => ?_⟩
  ·exact ⟨by omega, by omega, by omega, by omega, rfl, ⟨n, by omega, by rw [hc, cutz_take (by omega) h2], by rw [List.take_take, Nat.min_eq_left (by omega)]⟩, by omega⟩
  ·rw [hc, cutz_take1 (by omega) h2]
   exact ⟨hlen.symm, rfl⟩
 ·obtain rfl : k = 0 := by omega
  rw [hc]; exact ⟨rfl, rfl⟩

abbrev tt : Int := 10000
abbrev pq (n : Nat) : List Int := dgs 10000 n
abbrev nq (n : Nat) : D := .sl (pq n).length (ints .i64 (pq n))
theorem pq_isD (n : Nat) : isD tt (pq n) := dgs_isD (B := 10000) (by decide) n
theorem pq_vl (n : Nat) : vl tt (pq n) = n := dgs_vl (B := 10000) (by decide) n
theorem pq_zero : pq 0 = [] := dgs_zero _
theorem pq_cons {n : Nat} (h : 0 < n) : pq n = ((n % 10000 : Nat) : Int) :: pq (n / 10000) := dgs_pos (by decide) h
theorem pq_len_le {n k : Nat} (h : n < 10000 ^ k) : (pq n).length ≤ k := dgs_len (by decide) h
theorem pq_lt (n : Nat) : n < 10000 ^ (pq n).length := by
 have h := vl_lt (B := tt) (by decide) (pq_isD n)
 rw [pq_vl] at h
 have e : tt ^ (pq n).length = ((10000 ^ (pq n).length : Nat) : Int) := by rw [Int.natCast_pow]; rfl
 rw [e] at h; exact Int.ofNat_lt.1 h
theorem pq_len_mono {m n : Nat} (h : m ≤ n) : (pq m).length ≤ (pq n).length := pq_len_le (Nat.lt_of_le_of_lt h (pq_lt n))
theorem pq_len_lt {m n : Nat} (h : (pq m).length < (pq n).length) : m < n := by
 rcases Nat.lt_or_ge m n with h1 | h1
 ·exact h1
 ·have := pq_len_mono h1; omega
theorem pq_len_pos {n : Nat} (h : 0 < n) : 0 < (pq n).length := by rw [pq_cons h]; simp
theorem pq_dd (n : Nat) : (pq n).length ≤ (dd n).length := by
 refine pq_len_le (Nat.lt_of_lt_of_le (dd_lt _) ?_)
 exact Nat.pow_le_pow_left (by decide) _
theorem pq_cut {l : List Int} (h : isD tt l) : cutz l = pq (vl tt l).toNat := cutz_eq (B := 10000) (by decide) h
theorem vl_top4 {a b : List Int} {i : Nat} (ha : i < a.length) (hb : i < b.length) (da : isD tt a) (db : isD tt b) (hd : a.drop (i + 1) = b.drop (i + 1)) (hi : a.getD i 0 < b.getD i 0) : vl tt a < vl tt b := by
 rw [vl_split ha, vl_split hb, hd]
 have h1 := vl_lt (B := tt) (by decide) (isD_take da i)
 have h2 := vl_nonneg (B := tt) (by decide) (isD_take db i)
 rw [List.length_take, Nat.min_eq_left (by omega)] at h1
 have h3 : tt ^ i * (a.getD i 0 + tt * vl tt (b.drop (i + 1)) + 1) ≤ tt ^ i * (b.getD i 0 + tt * vl tt (b.drop (i + 1))) :=
  Int.mul_le_mul_of_nonneg_left (by omega) (Int.pow_nonneg (by decide))
 rw [Int.mul_add, Int.mul_one] at h3
 omega

theorem Tryz.rless (m n : Nat) (hm : (pq m).length ≤ 100000) (hn : (pq n).length ≤ 100000) : Con Tryz.prog Tryz.L 164 [nq m, nq n] (.bool (dB (m < n))) := by
 have da := pq_isD m
 have db := pq_isD n
 have va := pq_vl m
 have vb := pq_vl n
 have l1 := pq_len_lt (m := m) (n := n)
 have l2 := pq_len_lt (m := n) (n := m)
 have ei : pq m = pq n → m = n := dgs_inj (by decide)
 refine rule164 Tryz.hL rfl rfl rfl ?_
 ((try simp only [nq, pc164, rs164, oU, oC]); refine ev ?_; try exact ⟨⟩)
 generalize pq m = a at *
 generalize pq n = b at *
 refine ⟨fun h0 => ?_, fun h0 => ⟨by omega, ?_⟩⟩
 ·refine congrArg dB (propext ⟨fun h1 => l1 (by omega), fun h1 => ?_⟩)
  rcases Nat.lt_trichotomy a.length b.length with h | h | h
  ·omega
  ·omega
  ·have := l2 h; omega
 have hl : a.length = b.length := by omega
 refine loopF_of (fun E => ∃ i : Nat, i ≤ a.length ∧ a.drop i = b.drop i ∧ E = [(0, .sl a.length (ints .i64 a)), (1, .sl b.length (ints .i64 b)), (5, .int .i64 ((i : Int) - 1))])
  (fun E => match lk E 5 with | .int _ i => (i + 1).toNat | _ => 0) ⟨a.length, Nat.le_refl _, by rw [List.drop_length, hl, List.drop_length], rfl⟩ ?_
 rintro _ ⟨i, hi, hdr, rfl⟩
 (refine ev ?_; try exact ⟨⟩)
 refine ⟨fun h1 => ?_, fun h1 => ?_⟩
 ·obtain ⟨j, rfl⟩ : ∃ j, i = j + 1 := ⟨i - 1, by omega⟩
  rw [show (((j + 1 : Nat) : Int) - 1).toNat = j by omega]
  refine ⟨by omega, by omega, by omega, by omega, fun h2 => ⟨by omega, by omega, by omega, by omega, ?_⟩, fun h2 => ⟨by omega, ⟨j, by omega, ?_, by rw [show ((j + 1 : Nat) : Int) - 1 - 1 = (j : Int) - 1 by omega]⟩, by omega⟩⟩
  ·refine congrArg dB (propext ⟨fun h3 => ?_, fun h3 => ?_⟩)
   ·have := vl_top4 (by omega) (by omega) da db hdr h3
    omega
   ·rcases Int.lt_trichotomy (a.getD j 0) (b.getD j 0) with h4 | h4 | h4
    ·exact h4
    ·exact absurd h4 h2
    ·have := vl_top4 (by omega) (by omega) db da hdr.symm h4
     omega
  ·have h2 : a.getD j 0 = b.getD j 0 := Decidable.of_not_not h2
   rw [List.drop_eq_getElem_cons (show j < a.length by omega), List.drop_eq_getElem_cons (show j < b.length by omega), hdr]
   rw [List.getD_eq_getElem?_getD, List.getD_eq_getElem?_getD, List.getElem?_eq_getElem (show j < a.length by omega), List.getElem?_eq_getElem (show j < b.length by omega)] at h2
   simp only [Option.getD_some] at h2
   rw [h2]
 ·obtain rfl : i = 0 := by omega
  have := ei (by simpa using hdr)
  rw [dB_f (by omega)]

/-! ### carry -/
/-- entries of a list are at most this great -/
def bnd (M : Int) (l : List Int) : Prop := ∀ x ∈ l, -M ≤ x ∧ x ≤ M
theorem bnd_getD {M : Int} (hM : 0 ≤ M) {l : List Int} (h : bnd M l) (k : Nat) : -M ≤ l.getD k 0 ∧ l.getD k 0 ≤ M := by
 rw [List.getD_eq_getElem?_getD]
 cases hk : l[k]? with
 | none => simp; omega
 | some x => simp; exact h x (List.mem_of_getElem? hk)
theorem carry_step {out : List Int} {k : Nat} {c x V : Int} (ho : out.length = k) (hv : vl tt out + tt ^ k * c = V) :
  vl tt (out ++ [(c + x) % tt]) + tt ^ (k + 1) * ((c + x) / tt) = V + tt ^ k * x := by
 rw [vl_append, ho, Int.pow_succ]
 have e : (c + x) % tt + tt * ((c + x) / tt) = c + x := Int.emod_add_mul_ediv _ _
 have e2 : tt ^ k * (c + x) = tt ^ k * ((c + x) % tt) + tt ^ k * tt * ((c + x) / tt) := by
  rw [Int.mul_assoc, ← Int.mul_add, e]
 rw [Int.mul_add] at e2
 simp only [vl, Int.mul_zero, Int.add_zero]
 omega
theorem go_tm (z : Int) : (0 ≤ z ∧ z.tmod 10000 = z % 10000) ∨ (z < 0 ∧ z.tmod 10000 = -((-z) % 10000)) := by
 rcases Int.lt_or_le z 0 with h | h
 ·refine .inr ⟨h, ?_⟩
  have := Int.neg_tmod (-z) 10000
  rw [Int.neg_neg] at this
  rw [this, Int.tmod_eq_emod_of_nonneg (by omega)]
 ·exact .inl ⟨h, Int.tmod_eq_emod_of_nonneg h⟩
theorem go_fin (z : Int) : (z.tmod 10000 < 0 → z.tmod 10000 + 10000 = z % 10000) ∧ (¬z.tmod 10000 < 0 → z.tmod 10000 = z % 10000) ∧ (z - z % 10000).tdiv 10000 = z / 10000 := by
 refine ⟨fun h => ?_, fun h => ?_, ?_⟩
 ·rcases go_tm z with ⟨h1, h2⟩ | ⟨h1, h2⟩ <;> omega
 ·rcases go_tm z with ⟨h1, h2⟩ | ⟨h1, h2⟩ <;> omega
 ·rw [show z - z % 10000 = 10000 * (z / 10000) by omega, Int.mul_tdiv_cancel_left _ (by decide)]
theorem pow_room {c : Int} {j : Nat} (h0 : 0 ≤ c) (h : c.toNat < 10 ^ (19 - 4 * j)) (hc : c ≠ 0) : j ≤ 4 ∧ (c / 10000).toNat < 10 ^ (19 - 4 * (j + 1)) := by
 have hj : j ≤ 4 := by
  refine Decidable.byContradiction fun h1 => ?_
  rw [show 19 - 4 * j = 0 by omega, Nat.pow_zero] at h
  omega
 refine ⟨hj, ?_⟩
 have : j = 0 ∨ j = 1 ∨ j = 2 ∨ j = 3 ∨ j = 4 := by omega
 rcases this with rfl | rfl | rfl | rfl | rfl <;> simp at h ⊢ <;> omega
theorem carry_nonneg {out : List Int} {c V : Int} {k : Nat} (hd : isD tt out) (ho : out.length = k) (hv : vl tt out + tt ^ k * c = V) (hV : 0 ≤ V) : 0 ≤ c := by
 have h1 := vl_lt (B := tt) (by decide) hd
 rw [ho] at h1
 refine Decidable.byContradiction fun h => ?_
 have h3 : tt ^ k * c ≤ tt ^ k * (-1) := Int.mul_le_mul_of_nonneg_left (by omega) (Int.pow_nonneg (by decide))
 omega

set_option maxHeartbeats 2000000 in
theorem Tryz.carry (l : List Int) (hl : l.length ≤ 400000) (hb : bnd 1000000000000000000 l) (h0 : 0 ≤ vl tt l) :
  Con Tryz.prog Tryz.L 167 [.sl l.length (ints .i64 l)] (nq (vl tt l).toNat) := by
 refine rule167 Tryz.hL rfl rfl rfl ?_
 (simp only [pc167, rs167, oU, oC]; refine ev ?_; try exact ⟨⟩)
 refine loopF_of (fun E => ∃ (k : Nat) (out : List Int) (c : Int), k ≤ l.length + 10 ∧ out.length = k ∧ isD tt out ∧ -1000000000000000000 ≤ c ∧ c ≤ 1000000000000000000 ∧ vl tt out + tt ^ k * c = vl tt (l.take k) ∧ (l.length ≤ k → c.toNat < 10 ^ (19 - 4 * (k - l.length))) ∧
   E = [(0, .sl l.length (ints .i64 l)), (3, .own true 3 k (ints .i64 out)), (4, .int .i64 c), (5, .int .i64 k)])
  (fun E => match lk E 5 with | .int _ i => l.length + 20 - i.toNat | _ => 0) ⟨0, [], 0, Nat.zero_le _, rfl, fun x h => (by cases h), by omega, by omega, rfl, fun _ => by simp, rfl⟩ ?_
 rintro _ ⟨k, out, c, hk, ho, hd, hc0, hc1, hv, hs, rfl⟩
 (refine ev ?_; try exact ⟨⟩)
 have fin : ∀ (x : Int), -1000000000000000000 ≤ x → x ≤ 1000000000000000000 → vl tt (l.take (k + 1)) = vl tt (l.take k) + tt ^ k * x → (k < l.length ∨ l.length ≤ k ∧ c ≠ 0 ∧ x = 0) →
   (k + 1) * 8 ≤ 140737488355328 ∧ k ≤ 9223372036854775806 ∧ (-9223372036854775808 ≤ c + x - (c + x) % 10000 ∧ c + x - (c + x) % 10000 ≤ 9223372036854775807) ∧ (-9223372036854775808 ≤ (c + x) / 10000 ∧ (c + x) / 10000 ≤ 9223372036854775807) ∧
   (-9223372036854775808 ≤ (k : Int) + 1 ∧ (k : Int) + 1 ≤ 9223372036854775807) ∧
   (∃ (k_1 : Nat) (out_1 : List Int) (c_1 : Int), k_1 ≤ l.length + 10 ∧ out_1.length = k_1 ∧ isD tt out_1 ∧ -1000000000000000000 ≤ c_1 ∧ c_1 ≤ 1000000000000000000 ∧ vl tt out_1 + tt ^ k_1 * c_1 = vl tt (l.take k_1) ∧ (l.length ≤ k_1 → c_1.toNat < 10 ^ (19 - 4 * (k_1 - l.length))) ∧
    (3, D.own true 3 (k + 1) (ints .i64 (out ++ [(c + x) % 10000]))) = (3, D.own true 3 k_1 (ints .i64 out_1)) ∧ (4, D.int .i64 ((c + x) / 10000)) = (4, D.int .i64 c_1) ∧ (5, D.int .i64 ((k : Int) + 1)) = (5, D.int .i64 (k_1 : Int))) ∧
   l.length + 20 - ((k : Int) + 1).toNat < l.length + 20 - k := by
  intro x hx1 hx2 hxa hcase
  have hc0' : l.length ≤ k → 0 ≤ c := fun h => carry_nonneg hd ho hv (by rw [vl_take_ge h]; exact h0)
  have hk2 : k < l.length + 5 ∧ (l.length ≤ k + 1 → ((c + x) / 10000).toNat < 10 ^ (19 - 4 * (k + 1 - l.length))) := by
   rcases hcase with h | ⟨h, hc, rfl⟩
   ·refine ⟨by omega, fun h2 => ?_⟩
    rw [show k + 1 - l.length = 0 by omega]
    simp; omega
   ·obtain ⟨h1, h2⟩ := pow_room (hc0' h) (hs h) hc
    refine ⟨by omega, fun _ => ?_⟩
    rw [Int.add_zero, show k + 1 - l.length = k - l.length + 1 by omega]
    exact h2
  refine ⟨by omega, by omega, by omega, by omega, by omega, ⟨k + 1, out ++ [(c + x) % 10000], (c + x) / 10000, by omega, by rw [List.length_append, ho]; rfl, isD_snoc hd ⟨by omega, by simp only [tt]; omega⟩, by omega, by omega, ?_, hk2.2, rfl, rfl, rfl⟩, by omega⟩
  rw [hxa]; exact carry_step ho hv
 refine ⟨fun h1 => ⟨fun h2 => ⟨fun h3 => absurd h3 h1, fun h3 => ?_⟩, fun h2 => ?_⟩, fun h1 => ⟨fun h3 => ?_, fun h3 => absurd h1 h3⟩⟩
 ·have hf := fin 0 (by decide) (by decide) (by rw [vl_take_ge (show l.length ≤ k + 1 by omega), vl_take_ge (show l.length ≤ k by omega)]; simp) (.inr ⟨by omega, h2, rfl⟩)
  rw [Int.add_zero] at hf
  have hg := go_fin c
  refine ⟨fun h4 => ?_, fun h4 => ?_⟩
  ·rw [hg.1 h4, hg.2.2]; exact ⟨by omega, hf⟩
  ·rw [hg.2.1 h4, hg.2.2]; exact hf
 ·have h2 : c = 0 := Decidable.of_not_not h2
  subst h2
  have hc := Tryz.cut out (by omega)
  rw [Int.mul_zero, Int.add_zero, vl_take_ge (by omega)] at hv
  rw [pq_cut hd, hv, ho] at hc
  refine callF_of hc ?_
  ((try simp only [nq]); refine ev ?_; try exact ⟨⟩)
 ·have hx := bnd_getD (by decide) hb k
  have hf := fin (l.getD k 0) hx.1 hx.2 (vl_take (by omega)) (.inl (by omega))
  generalize l.getD k 0 = x at *
  have hg := go_fin (c + x)
  refine ⟨by omega, by omega, by omega, fun h4 => ?_, fun h4 => ?_⟩
  ·rw [hg.1 h4, hg.2.2]; exact ⟨by omega, hf⟩
  ·rw [hg.2.1 h4, hg.2.2]; exact hf
end Go.Proofs

/-
 ARITHMETIC: klipperef01.joined, times. Own work.
-/
namespace Go.Proofs
open Go Go.Pi Go.RowKit Go.Ar

theorem getD_set_same {l : List Int} {j : Nat} {x : Int} (h : j < l.length) : (l.set j x).getD j 0 = x := by
 rw [List.getD_eq_getElem?_getD, List.getElem?_set_self h]; rfl
theorem getD_set_ne {l : List Int} {j k : Nat} {x : Int} (h : j ≠ k) : (l.set j x).getD k 0 = l.getD k 0 := by
 rw [List.getD_eq_getElem?_getD, List.getElem?_set_ne h, ← List.getD_eq_getElem?_getD]
theorem getD_snoc0 {l : List Int} {k : Nat} : (l ++ [0]).getD k 0 = l.getD k 0 := by
 rw [List.getD_eq_getElem?_getD, List.getD_eq_getElem?_getD]
 rcases Nat.lt_or_ge k l.length with h | h
 ·rw [List.getElem?_append_left h]
 ·rw [List.getElem?_append_right h, List.getElem?_eq_none h]
  rcases Nat.eq_zero_or_pos (k - l.length) with h1 | h1
  ·rw [h1]; rfl
  ·rw [List.getElem?_eq_none (by simp; omega)]
theorem bnd_of_getD {M : Int} {l : List Int} (h : ∀ k, k < l.length → -M ≤ l.getD k 0 ∧ l.getD k 0 ≤ M) : bnd M l := by
 intro x hx
 obtain ⟨k, hk, rfl⟩ := List.mem_iff_getElem.1 hx
 have := h k hk
 rwa [List.getD_eq_getElem?_getD, List.getElem?_eq_getElem hk] at this
theorem vl_snoc0 {B : Int} {l : List Int} : vl B (l ++ [0]) = vl B l := by rw [vl_append]; simp [vl]
theorem mulk_bound {k x : Int} (hk : -10000 ≤ k ∧ k ≤ 10000) (hx : 0 ≤ x ∧ x < tt) : -100000000 ≤ k * x ∧ k * x ≤ 100000000 := by
 have h1 : (k * x).natAbs ≤ 10000 * 10000 := by
  rw [Int.natAbs_mul]
  exact Nat.mul_le_mul (by omega) (by have := hx.2; simp only [tt] at this; omega)
 omega

set_option maxHeartbeats 2000000 in
theorem Tryz.joined (p q : List Int) (k : Int) (hp : p.length ≤ 100000) (hq : q.length ≤ 100000) (dp : isD tt p) (dq : isD tt q) (hk : -10000 ≤ k ∧ k ≤ 10000) (h0 : 0 ≤ vl tt p + k * vl tt q) :
  Con Tryz.prog Tryz.L 149 [.sl p.length (ints .i64 p), .sl q.length (ints .i64 q), .int .i64 k, .int .i64 0] (nq (vl tt p + k * vl tt q).toNat) := by
 refine rule149 Tryz.hL rfl rfl rfl ?_
 (simp only [pc149, rs149, oU, oC]; refine ev ?_; try exact ⟨⟩)
 refine ⟨by omega, by omega, ?_⟩
 refine loopF_of (fun E => ∃ (i : Nat) (out : List Int), i ≤ q.length ∧ out.length ≤ 200000 + i ∧ (∀ j, i ≤ j → 0 ≤ out.getD j 0 ∧ out.getD j 0 < tt) ∧ (∀ j, -1000000000 ≤ out.getD j 0 ∧ out.getD j 0 ≤ 1000000000) ∧ vl tt out = vl tt p + k * vl tt (q.take i) ∧
   E = [(1, .sl q.length (ints .i64 q)), (2, .int .i64 k), (3, .int .i64 0), (9, .own true 3 out.length (ints .i64 out)), (10, .int .i64 i)])
  (fun E => match lk E 10 with | .int _ i => q.length - i.toNat | _ => 0) ⟨0, p, by omega, by omega, fun j _ => isD_getD (by decide) dp j, fun j => by (have := isD_getD (B := tt) (by decide) dp j; simp only [tt] at this; omega), by simp [vl], by simp⟩ ?_
 rintro _ ⟨i, out, hi, hlo, hge, hall, hv, rfl⟩
 (refine ev ?_; try exact ⟨⟩)
 refine ⟨fun h1 => ?_, fun h1 => ?_⟩
 ·refine loopF_of (fun E => ∃ out : List Int, out.length ≤ 200001 + i ∧ (∀ j, i ≤ j → 0 ≤ out.getD j 0 ∧ out.getD j 0 < tt) ∧ (∀ j, -1000000000 ≤ out.getD j 0 ∧ out.getD j 0 ≤ 1000000000) ∧ vl tt out = vl tt p + k * vl tt (q.take i) ∧
    (E = [(1, .sl q.length (ints .i64 q)), (2, .int .i64 k), (3, .int .i64 0), (9, .own true 3 out.length (ints .i64 out)), (10, .int .i64 i)] ∨ E = [(1, .sl q.length (ints .i64 q)), (2, .int .i64 k), (3, .int .i64 0), (9, .own true 3 out.length (ints .i64 out)), (10, .int .i64 i), (17, .bool (dB ((i : Int) < q.length)))]))
   (fun E => match lk E 9 with | .own _ _ n _ => i + 1 - n | _ => 0) ⟨out, by omega, hge, hall, hv, .inr rfl⟩ ?_
  rintro _ ⟨o2, hlo2, hge2, hall2, hv2, rfl | rfl⟩
  all_goals (refine ev ?_; try exact ⟨⟩)
  all_goals refine ⟨by omega, fun h2 => ?_, fun h2 => ?_⟩
  ·refine ⟨by omega, by omega, ⟨o2 ++ [0], by rw [List.length_append]; simp; omega, fun j hj => by rw [getD_snoc0]; exact hge2 j hj, fun j => by rw [getD_snoc0]; exact hall2 j, by rw [vl_snoc0]; exact hv2, .inl (by rw [List.length_append]; rfl)⟩, by omega⟩
  ·have hx := isD_getD (B := tt) (by decide) dq i
   have hxa := vl_take (B := tt) (l := q) (k := i) (by omega)
   have hb := mulk_bound hk hx
   have ho := hge2 i (Nat.le_refl _)
   have ho2 := ho.2
   simp only [tt] at ho2
   have hs := fun d => vl_set (B := tt) (d := d) (l := o2) (j := i) (by omega)
   rw [Int.add_zero, Int.toNat_natCast]
   have hgs := fun (d : Int) => getD_set_same (l := o2) (j := i) (x := d) (by omega)
   have hgn := fun (d : Int) (j : Nat) (h : i ≠ j) => getD_set_ne (l := o2) (j := i) (k := j) (x := d) h
   generalize q.getD i 0 = x at *
   generalize ho3 : o2.getD i 0 = y at *
   generalize hkx : k * x = kx at *
   and_intros <;> try omega
   refine ⟨i + 1, o2.set i (y + kx), by omega, by rw [List.length_set]; omega, fun j hj => ?_, fun j => ?_, ?_, by rw [List.length_set], rfl⟩
   ·rw [hgn _ j (by omega)]; exact hge2 j (by omega)
   ·by_cases h : i = j
    ·subst h; rw [hgs]; omega
    ·rw [hgn _ j h]; exact hall2 j
   ·rw [hs, hv2, hxa, Int.mul_add, ← Int.mul_assoc, Int.mul_comm k (tt ^ i), Int.mul_assoc, hkx, show y + kx - y = kx by omega]
    omega
  ·refine ⟨by omega, by omega, ⟨o2 ++ [0], by rw [List.length_append]; simp; omega, fun j hj => by rw [getD_snoc0]; exact hge2 j hj, fun j => by rw [getD_snoc0]; exact hall2 j, by rw [vl_snoc0]; exact hv2, .inl (by rw [List.length_append]; rfl)⟩, by omega⟩
  ·have hx := isD_getD (B := tt) (by decide) dq i
   have hxa := vl_take (B := tt) (l := q) (k := i) (by omega)
   have hb := mulk_bound hk hx
   have ho := hge2 i (Nat.le_refl _)
   have ho2 := ho.2
   simp only [tt] at ho2
   have hs := fun d => vl_set (B := tt) (d := d) (l := o2) (j := i) (by omega)
   rw [Int.add_zero, Int.toNat_natCast]
   have hgs := fun (d : Int) => getD_set_same (l := o2) (j := i) (x := d) (by omega)
   have hgn := fun (d : Int) (j : Nat) (h : i ≠ j) => getD_set_ne (l := o2) (j := i) (k := j) (x := d) h
   generalize q.getD i 0 = x at *
   generalize ho3 : o2.getD i 0 = y at *
   generalize hkx : k * x = kx at *
   and_intros <;> try omega
   refine ⟨i + 1, o2.set i (y + kx), by omega, by rw [List.length_set]; omega, fun j hj => ?_, fun j => ?_, ?_, by rw [List.length_set], rfl⟩
   ·rw [hgn _ j (by omega)]; exact hge2 j (by omega)
   ·by_cases h : i = j
    ·subst h; rw [hgs]; omega
    ·rw [hgn _ j h]; exact hall2 j
   ·rw [hs, hv2, hxa, Int.mul_add, ← Int.mul_assoc, Int.mul_comm k (tt ^ i), Int.mul_assoc, hkx, show y + kx - y = kx by omega]
    omega
 ·obtain rfl : i = q.length := by omega
  rw [List.take_length] at hv
  have hc := Tryz.carry out (by omega) (bnd_of_getD fun j _ => by have := hall j; omega) (by rw [hv]; exact h0)
  rw [hv] at hc
  refine callF_of hc ?_
  ((try simp only [nq]); refine ev ?_; try exact ⟨⟩)

end Go.Proofs

/-
 ARITHMETIC: klipperef01 by texts. Own work.
-/
namespace Go.Proofs
open Go Go.Pi Go.RowKit Go.Ar

theorem not_minus_nil {s : List UInt8} (h : ¬0 < s.length) : ¬isMinus s := fun h2 => h (by have := minus_len h2; omega)

theorem Tryz.split (s : List UInt8) (hs : s.length ≤ 1000000000) : Con Tryz.prog Tryz.L 120 [.str s] (.tup [.bool (dB (isMinus s)), .str (unDash s)]) := by
 refine rule120 Tryz.hL rfl rfl rfl ?_
 (simp only [pc120, rs120, oU, oC]; refine ev ?_; try exact ⟨⟩)
 refine ⟨fun h => ⟨by omega, fun h2 => ?_, fun h2 => ?_⟩, fun h => ?_⟩
 ·have h3 := (head_minus (by omega)).1 h2
  rw [unDash_minus h3, dB_t h3, List.take_length]
  and_intros <;> try omega
  simp [resD_two, rvD, lk, D.plain, D.isPure, optAll]
 ·have h3 : ¬isMinus s := fun h3 => h2 ((head_minus (by omega)).2 h3)
  rw [unDash_plain h3, dB_f h3]
  simp [resD_two, rvD, lk, D.plain, D.isPure, optAll]
 ·have h3 := not_minus_nil (s := s) (by omega)
  rw [unDash_plain h3, dB_f h3]
  simp [resD_two, rvD, lk, D.plain, D.isPure, optAll]
theorem Tryz.splitZ (z : Int) (hz : dl z ≤ 1000000) : Con Tryz.prog Tryz.L 120 [.str (tz z)] (.tup [.bool (dB (z < 0)), .str (dd z.natAbs)]) := by
 have h := Tryz.split (tz z) (by have := tz_dl z; omega)
 rw [unDash_tz, show isMinus (tz z) = (z < 0) from propext (tz_minus z)] at h
 exact h
theorem Tryz.xof (z : Int) (h : inR .i64 z) : Con Tryz.prog Tryz.L 146 [.int .i64 z] (.str (tz z)) := by
 refine rule146 Tryz.hL rfl rfl rfl ?_
 (simp only [pc146, rs146, oU, oC]; refine ev ?_; try exact ⟨⟩)
 refine callF_of (Tryz.c62 z h) ?_
 (refine ev ?_; try exact ⟨⟩)
theorem Tryz.xabs (z : Int) (hz : dl z ≤ 1000000) : Con Tryz.prog Tryz.L 125 [.str (tz z)] (.str (tz (z.natAbs : Int))) := by
 refine rule125 Tryz.hL rfl rfl rfl ?_
 (simp only [pc125, rs125, oU, oC]; refine ev ?_; try exact ⟨⟩)
 refine callF_of (Tryz.splitZ z hz) ?_
 (refine ev ?_; try exact ⟨⟩)
 rw [dd_tz]
theorem Tryz.xsign (z : Int) (hz : dl z ≤ 1000000) : Con Tryz.prog Tryz.L 123 [.str (tz z)] (.int .i64 z.sign) := by
 refine rule123 Tryz.hL rfl rfl rfl ?_
 (simp only [pc123, rs123, oU, oC]; refine ev ?_; try exact ⟨⟩)
 refine callF_of (Tryz.splitZ z hz) ?_
 (refine ev ?_; try exact ⟨⟩)
 rw [tz_zero]
 refine ⟨fun h => ?_, fun h => ⟨fun h2 => ?_, fun h2 => ?_⟩⟩
 ·rw [Int.sign_eq_neg_one_of_neg h]
 ·rw [h2]; rfl
 ·rw [Int.sign_eq_one_of_pos (by omega)]
theorem Tryz.xneg (z : Int) (hz : dl z ≤ 1000000) : Con Tryz.prog Tryz.L 144 [.str (tz z)] (.str (tz (-z))) := by
 refine rule144 Tryz.hL rfl rfl rfl ?_
 (simp only [pc144, rs144, oU, oC]; refine ev ?_; try exact ⟨⟩)
 refine callF_of (Tryz.splitZ z hz) ?_
 (refine ev ?_; try exact ⟨⟩)
 rw [tz_zero]
 have hl : (dd z.natAbs).length ≤ 1000000 := hz
 refine ⟨fun h => ⟨fun h2 => ?_, fun h2 => ⟨by omega, ?_⟩⟩, fun h => ?_⟩
 ·rw [h2]; rfl
 ·rw [tz_nat (-z), if_pos (by omega), Int.natAbs_neg]
 ·rw [tz_nat (-z), if_neg (by omega), Int.natAbs_neg]

/-! ### pieces and digits -/
theorem dva_split (t : List UInt8) {i m : Nat} (him : i ≤ m) (hm : m ≤ t.length) : dva 0 (t.take m) = dva 0 (t.take i) * 10 ^ (m - i) + dva 0 ((t.take m).drop i) := by
 have e : t.take m = t.take i ++ (t.take m).drop i := by
  conv => lhs; rw [← List.take_append_drop i (t.take m), List.take_take, Nat.min_eq_left him]
 conv => lhs; rw [e]
 rw [dva_append, dva_lin, List.length_drop, List.length_take, Nat.min_eq_left hm]
theorem dva_range {t : List UInt8} {s i : Nat} (hs : s ≤ i) (h : i < t.length) : dva 0 ((t.take (i + 1)).drop s) = dva 0 ((t.take i).drop s) * 10 + ((t.getD i 0).toNat - 48) := by
 rw [List.take_succ_eq_append_getElem h, List.drop_append_of_le_length (by rw [List.length_take]; omega), dva_append, dva_cons, dva_nil]
 simp [List.getD_eq_getElem?_getD, List.getElem?_eq_getElem h]
theorem range_lt {t : List UInt8} (ht : isDec t) {s i : Nat} (h : i ≤ s + 4) : dva 0 ((t.take i).drop s) < 10000 := by
 have h1 := dva_lt (isDec_drop (isDec_take ht i) s)
 have h2 : ((t.take i).drop s).length ≤ 4 := by rw [List.length_drop, List.length_take]; omega
 exact Nat.lt_of_lt_of_le h1 (Nat.pow_le_pow_right (n := 10) (by decide) h2)

set_option maxHeartbeats 2000000 in
theorem Tryz.take (t : List UInt8) (ht : isDec t) (hl : t.length ≤ 400000) : Con Tryz.prog Tryz.L 148 [.str t] (nq (dva 0 t)) := by
 refine rule148 Tryz.hL rfl rfl rfl ?_
 (simp only [pc148, rs148, oU, oC]; refine ev ?_; try exact ⟨⟩)
 refine loopF_of (fun E => ∃ (m k : Nat) (e : Int) (out : List Int), e ≤ m ∧ (m : Int) ≤ max e 0 ∧ -4 ≤ e ∧ m ≤ t.length ∧ out.length = k ∧ k ≤ t.length + 1 - m ∧ isD tt out ∧ vl tt out + tt ^ k * (dva 0 (t.take m) : Int) = dva 0 t ∧
   E = [(0, .str t), (3, .own true 3 k (ints .i64 out)), (4, .int .i64 e)])
  (fun E => match lk E 4 with | .int _ i => i.toNat | _ => 0) ⟨t.length, 0, t.length, [], by omega, by omega, by omega, by omega, rfl, by omega, fun x h => (by cases h), by rw [List.take_length]; simp [vl], rfl⟩ ?_
 rintro _ ⟨m, k, e, out, he1, he2, he3, hm, ho, hk, hd, hv, rfl⟩
 (refine ev ?_; try exact ⟨⟩)
 refine ⟨fun h1 => ?_, fun h1 => ?_⟩
 ·obtain ⟨s, hs, hs2⟩ : ∃ s : Nat, (if e - 4 > 0 then e - 4 else 0) = (s : Int) ∧ s = m - 4 := ⟨m - 4, by split <;> omega, rfl⟩
  have hs3 : (if (0 : Int) > e - 4 then (0 : Int) else e - 4) = (s : Int) := by split <;> omega
  refine ⟨by omega, ?_⟩
  first | rw [hs] | rw [hs3]
  refine loopF_of (fun E => ∃ i : Nat, s ≤ i ∧ i ≤ m ∧
    E = [(0, .str t), (3, .own true 3 k (ints .i64 out)), (4, .int .i64 e), (5, .int .i64 (dva 0 ((t.take i).drop s))), (6, .int .i64 i)])
   (fun E => match lk E 6 with | .int _ i => m - i.toNat | _ => 0) ⟨s, Nat.le_refl _, by omega, by rw [List.drop_of_length_le (by rw [List.length_take]; omega)]; rfl⟩ ?_
  rintro _ ⟨i, hi1, hi2, rfl⟩
  (refine ev ?_; try exact ⟨⟩)
  have hr := range_lt ht (s := s) (i := i) (by omega)
  refine ⟨fun h2 => ?_, fun h2 => ?_⟩
  ·have hi3 : i < t.length := by omega
   have hdg := dec_getD ht hi3
   have hst := dva_range hi1 hi3
   generalize t.getD i 0 = c at *
   and_intros <;> try omega
   exact ⟨i + 1, by omega, by omega, by rw [hst]; congr 2; omega, rfl⟩
  ·obtain rfl : i = m := by omega
   have hsp := dva_split t (i := s) (m := i) hi1 hm
   have hgo : vl tt (out ++ [(dva 0 ((t.take i).drop s) : Int)]) + tt ^ (k + 1) * (dva 0 (t.take s) : Int) = dva 0 t := by
    rw [← hv, vl_append, ho, Int.pow_succ]
    have e3 : (dva 0 (t.take i) : Int) = tt * (dva 0 (t.take s) : Int) + dva 0 ((t.take i).drop s) := by
     rcases Nat.eq_zero_or_pos s with h0 | h0
     ·rw [h0] at hsp ⊢
      rw [List.take_zero, dva_nil] at hsp ⊢
      omega
     ·rw [show i - s = 4 by omega] at hsp
      rw [hsp]; simp only [tt]; omega
    rw [e3, Int.mul_add, ← Int.mul_assoc]
    simp only [vl, Int.mul_zero, Int.add_zero]
    omega
   generalize dva 0 ((t.take i).drop s) = c at *
   refine ⟨by omega, by omega, by omega, ⟨s, k + 1, e - 4, out ++ [(c : Int)], by omega, by omega, by omega, by omega, by rw [List.length_append, ho]; rfl, by omega, isD_snoc hd ⟨by omega, by simp only [tt]; omega⟩, hgo, rfl, rfl⟩, by omega⟩
 ·obtain rfl : m = 0 := by omega
  rw [List.take_zero, dva_nil] at hv
  have hc := Tryz.cut out (by omega)
  rw [pq_cut hd, show (vl tt out).toNat = dva 0 t by (have : vl tt out = dva 0 t := by simpa using hv); omega, ho] at hc
  refine callF_of hc ?_
  (refine ev ?_; try exact ⟨⟩)

theorem pq_drop (n j : Nat) : (pq n).drop j = pq (n / 10000 ^ j) := by
 induction j generalizing n with
 | zero => simp
 | succ j ih =>
   rcases Nat.eq_zero_or_pos n with h | h
   ·subst h; rw [Nat.zero_div, pq_zero, List.drop_nil]
   ·rw [pq_cons h, List.drop_succ_cons, ih, Nat.div_div_eq_div_mul, Nat.pow_succ, Nat.mul_comm (10000 ^ j)]
theorem pq_getD (n j : Nat) : (pq n).getD j 0 = ((n / 10000 ^ j % 10000 : Nat) : Int) := by
 have h := pq_drop n j
 rcases Nat.eq_zero_or_pos (n / 10000 ^ j) with h0 | h0
 ·rw [h0, pq_zero] at h
  rw [h0, List.getD_eq_getElem?_getD, List.getElem?_eq_none (by have := congrArg List.length h; simp at this; omega)]; rfl
 ·rw [pq_cons h0] at h
  have := congrArg List.head? h
  rw [List.head?_drop] at this
  rw [List.getD_eq_getElem?_getD, this]; rfl
theorem pq_le {n : Nat} (h : 0 < n) : 10000 ^ ((pq n).length - 1) ≤ n := by
 rcases Nat.lt_or_ge n (10000 ^ ((pq n).length - 1)) with h1 | h1
 ·have := pq_len_le h1; have := pq_len_pos h; omega
 ·exact h1
theorem pq_top {n : Nat} (h : 0 < n) : 0 < n / 10000 ^ ((pq n).length - 1) ∧ n / 10000 ^ ((pq n).length - 1) < 10000 := by
 have h1 := pq_le h
 have h2 := pq_lt n
 have h3 := pq_len_pos h
 have hp : 0 < 10000 ^ ((pq n).length - 1) := Nat.pow_pos (by decide)
 refine ⟨Nat.div_pos h1 hp, ?_⟩
 rw [Nat.div_lt_iff_lt_mul hp]
 have e : (pq n).length = (pq n).length - 1 + 1 := by omega
 rw [e, Nat.pow_succ] at h2
 rw [Nat.mul_comm]; exact h2
theorem pad4 {x : Nat} (hx : x < 10000) : (dd (10000 + x)).drop 1 = padz 4 (dd x) := by
 have := dec_pad (h := 1) (k := 3) (by decide) (lo := x) hx
 rw [show 1 * 10 ^ (3 + 1) + x = 10000 + x by omega, dd_one] at this
 rw [this]; rfl
theorem dd_le_num {n k : Nat} (h : (pq n).length ≤ k) (hk : 0 < k) : (dd n).length ≤ 4 * k := by
 refine dd_len_le (by omega) ?_
 have h1 : n < 10000 ^ k := Nat.lt_of_lt_of_le (pq_lt n) (Nat.pow_le_pow_right (by decide) h)
 rw [Nat.pow_mul]; exact h1

theorem Tryz.give (n : Nat) (hn : (pq n).length ≤ 100000) : Con Tryz.prog Tryz.L 168 [nq n] (.str (dd n)) := by
 refine rule168 Tryz.hL rfl rfl rfl ?_
 have hlen : (dd n).length ≤ 400000 := dd_le_num hn (by decide)
 ((try simp only [nq, pc168, rs168, oU, oC]); refine ev ?_; try exact ⟨⟩)
 rcases Nat.eq_zero_or_pos n with h0 | h0
 ·subst h0
  rw [pq_zero]
  refine ⟨fun _ => by rw [dd_zero], fun h => absurd rfl h⟩
 have hp := pq_len_pos h0
 obtain ⟨ht1, ht2⟩ := pq_top h0
 refine ⟨fun h => absurd h (by omega), fun _ => ⟨by omega, by omega, by omega, ?_⟩⟩
 rw [show (((pq n).length : Int) - 1).toNat = (pq n).length - 1 by omega, pq_getD, Nat.mod_eq_of_lt ht2]
 refine callF_of (Tryz.c62 _ (by rw [inR_i64]; omega)) ?_
 (refine ev ?_; try exact ⟨⟩)
 refine ⟨by omega, ?_⟩
 refine loopF_of (fun E => ∃ j : Nat, j + 1 ≤ (pq n).length ∧ E = [(0, .sl (pq n).length (ints .i64 (pq n))), (3, .str (dd (n / 10000 ^ j))), (4, .int .i64 ((j : Int) - 1))])
  (fun E => match lk E 4 with | .int _ i => (i + 1).toNat | _ => 0) ⟨(pq n).length - 1, by omega, ?_⟩ ?_
 ·rw [← dd_tz]; congr 5; omega
 rintro _ ⟨j, hj, rfl⟩
 (refine ev ?_; try exact ⟨⟩)
 refine ⟨fun h1 => ?_, fun h1 => ?_⟩
 ·obtain ⟨i, rfl⟩ : ∃ i, j = i + 1 := ⟨j - 1, by omega⟩
  rw [show (((i + 1 : Nat) : Int) - 1).toNat = i by omega, pq_getD]
  have hx := Nat.mod_lt (n / 10000 ^ i) (show 0 < 10000 by decide)
  have e1 : n / 10000 ^ i = n / 10000 ^ (i + 1) * 10 ^ (3 + 1) + n / 10000 ^ i % 10000 := by
   rw [Nat.pow_succ, ← Nat.div_div_eq_div_mul, Nat.mul_comm]
   exact (Nat.div_add_mod _ _).symm
  have hpos : 0 < n / 10000 ^ (i + 1) := Nat.div_pos (Nat.le_trans (Nat.pow_le_pow_right (by decide) (by omega)) (pq_le h0)) (Nat.pow_pos (by decide))
  have e2 : dd (n / 10000 ^ i) = dd (n / 10000 ^ (i + 1)) ++ padz 4 (dd (n / 10000 ^ i % 10000)) := by
   conv => lhs; rw [e1]
   exact dec_pad hpos hx
  have l1 := dd_len_mono (Nat.div_le_self n (10000 ^ i))
  rw [e2] at l1
  rw [List.length_append] at l1
  generalize n / 10000 ^ i % 10000 = x at *
  refine ⟨by omega, by omega, by omega, ?_⟩
  refine callF_of (Tryz.c62 (10000 + (x : Int)) (by rw [inR_i64]; omega)) ?_
  (refine ev ?_; try exact ⟨⟩)
  have e3 : Lib.itoa (10000 + (x : Int)) = dd (10000 + x) := by
   have := dd_tz (10000 + x)
   rw [Int.natCast_add] at this
   exact this
  have l2 : 0 < (dd (10000 + x)).length := dd_len_pos _
  rw [e3, List.take_length, pad4 hx]
  have l3 : ((dd (10000 + x)).drop 1).length = (padz 4 (dd x)).length := by rw [pad4 hx]
  refine ⟨by omega, by omega, by omega, by omega, ⟨i, by omega, by rw [e2], by congr 2; omega⟩, by omega⟩
 ·obtain rfl : j = 0 := by omega
  rw [Nat.pow_zero, Nat.div_one]

theorem Tryz.made (m : Bool) (n : Nat) (hn : (pq n).length ≤ 100000) : Con Tryz.prog Tryz.L 150 [.bool m, nq n] (.str (tz (if m then -(n : Int) else n))) := by
 refine rule150 Tryz.hL rfl rfl rfl ?_
 have hlen : (dd n).length ≤ 400000 := dd_le_num hn (by decide)
 ((try simp only [nq, pc150, rs150, oU, oC]); refine ev ?_; try exact ⟨⟩)
 have hc := Tryz.cut (pq n) (by omega)
 rw [show cutz (pq n) = pq n from dgs_cutz (by decide) n] at hc
 refine callF_of hc ?_
 have hg := Tryz.give n hn
 have hz : (0 : Int) < (pq n).length ↔ 0 < n := ⟨fun h => by
  rcases Nat.eq_zero_or_pos n with h0 | h0
  ·rw [h0, pq_zero] at h; simp at h
  ·exact h0, fun h => by have := pq_len_pos h; omega⟩
 cases m
 ·(refine ev ?_; try exact ⟨⟩)
  refine callF_of hg ?_
  (refine ev ?_; try exact ⟨⟩)
  rw [dd_tz]
 ·(refine ev ?_; try exact ⟨⟩)
  rw [hz]
  refine ⟨fun h => ?_, fun h => ?_⟩
  ·refine callF_of hg ?_
   (refine ev ?_; try exact ⟨⟩)
   refine ⟨by omega, ?_⟩
   rw [tz_nat, if_pos (by omega), Int.natAbs_neg, Int.natAbs_natCast]
  ·refine callF_of hg ?_
   (refine ev ?_; try exact ⟨⟩)
   have : n = 0 := by omega
   subst this; rfl
end Go.Proofs

/-
 ARITHMETIC: klipperef01: Small, brief, Add, Sub, Compare, Mul. Own work.
-/
namespace Go.Proofs
open Go Go.Pi Go.RowKit Go.Ar

theorem dva_take18 {t : List UInt8} (ht : isDec t) (k : Nat) (h : t.length ≤ 18) : dva 0 (t.take k) < 1000000000000000000 := by
 have h1 := dva_lt (isDec_take ht k)
 have h2 : (t.take k).length ≤ 18 := by rw [List.length_take]; omega
 exact Nat.lt_of_lt_of_le h1 (Nat.pow_le_pow_right (n := 10) (by decide) h2)
theorem go_td10 {z : Int} (h : z < 0) : z.tdiv 10 = -((-z) / 10) := by
 have := Int.neg_tdiv (-z) 10
 rw [Int.neg_neg] at this
 rw [this, Int.tdiv_eq_ediv_of_nonneg (by omega)]
theorem Tryz.xsmall (z : Int) (hz : dl z ≤ 18) : Con Tryz.prog Tryz.L 165 [.str (tz z)] (.tup [.int .i64 z, .bool true]) := by
 refine rule165 Tryz.hL rfl rfl rfl ?_
 (simp only [pc165, rs165, oU, oC]; refine ev ?_; try exact ⟨⟩)
 refine callF_of (Tryz.splitZ z (by omega)) ?_
 have hl : (dd z.natAbs).length ≤ 18 := hz
 have hd := dd_isDec z.natAbs
 have hv := dd_dva z.natAbs
 generalize dd z.natAbs = t at *
 (refine ev ?_; try exact ⟨⟩)
 refine ⟨fun h => absurd h (by omega), fun _ => ?_⟩
 refine loopF_of (fun E => ∃ k : Nat, k ≤ t.length ∧ E = [(4, .bool (dB (z < 0))), (5, .str t), (6, .int .i64 (-(dva 0 (t.take k) : Int))), (7, .int .i64 k)])
  (fun E => match lk E 7 with | .int _ i => t.length - i.toNat | _ => 0) ⟨0, by omega, by rw [List.take_zero, dva_nil]; rfl⟩ ?_
 rintro _ ⟨k, hk, rfl⟩
 (refine ev ?_; try exact ⟨⟩)
 have hb := dva_take18 hd k hl
 refine ⟨fun h1 => ?_, fun h1 => ?_⟩
 ·have hk1 : k < t.length := by omega
  have hdg := dec_getD hd hk1
  have hst := dva_take hk1
  have hb2 := dva_take18 hd (k + 1) hl
  rw [hst] at hb2
  generalize t.getD k 0 = c at *
  have hq2 : -9223372036854775808 ≤ Int.tdiv (-9223372036854775808 + ((c.toNat : Int) - 48)) 10 := by rw [go_td10 (by omega)]; omega
  have hq : Int.tdiv (-9223372036854775808 + ((c.toNat : Int) - 48)) 10 < -922337203685477000 := by rw [go_td10 (by omega)]; omega
  generalize Int.tdiv (-9223372036854775808 + ((c.toNat : Int) - 48)) 10 = qq at *
  and_intros <;> try omega
  intro _
  and_intros <;> try omega
  exact ⟨k + 1, by omega, by rw [hst]; congr 2; omega, rfl⟩
 ·obtain rfl : k = t.length := by omega
  rw [List.take_length, hv] at hb ⊢
  refine ⟨fun h2 => ?_, fun h2 => ⟨fun h3 => ?_, fun h3 => ⟨by omega, ?_⟩⟩⟩
  ·simp [resD_two, rvD, lk, D.plain, D.isPure, optAll]; omega
  ·exact absurd h3 (by omega)
  ·simp [resD_two, rvD, lk, D.plain, D.isPure, optAll]; omega
theorem Tryz.brief (z : Int) (hz : dl z ≤ 1000000) : Con Tryz.prog Tryz.L 145 [.str (tz z)] (if dl z ≤ 17 then .tup [.int .i64 z, .bool true] else .tup [.int .i64 0, .bool false]) := by
 refine rule145 Tryz.hL (by split <;> rfl) rfl rfl ?_
 (simp only [pc145, rs145, oU, oC]; refine ev ?_; try exact ⟨⟩)
 refine callF_of (Tryz.splitZ z (by omega)) ?_
 have hl : (dd z.natAbs).length = dl z := rfl
 (refine ev ?_; try exact ⟨⟩)
 refine ⟨fun h => ?_, fun h => ?_⟩
 ·rw [if_neg (by omega)]
  simp [resD_two, rvD, lk, D.plain, D.isPure, optAll]
 ·rw [if_pos (by omega)]
  refine callF_of (Tryz.xsmall z (by omega)) ?_
  (refine ev ?_; try exact ⟨⟩)
  simp [resD_two, rvD, lk, D.plain, D.isPure, optAll]
theorem small17 {z : Int} (h : dl z ≤ 17) : z.natAbs < 100000000000000000 := by
 exact Nat.lt_of_lt_of_le (dd_lt z.natAbs) (Nat.pow_le_pow_right (n := 10) (by decide) (show (dd z.natAbs).length ≤ 17 from h))
theorem pq_dl (z : Int) : (pq z.natAbs).length ≤ dl z := pq_dd z.natAbs

theorem Tryz.n_joined (m n : Nat) (k : Int) (hm : (pq m).length ≤ 100000) (hn : (pq n).length ≤ 100000) (hk : -10000 ≤ k ∧ k ≤ 10000) (h0 : 0 ≤ (m : Int) + k * n) :
  Con Tryz.prog Tryz.L 149 [nq m, nq n, .int .i64 k, .int .i64 0] (nq ((m : Int) + k * n).toNat) := by
 have := Tryz.joined (pq m) (pq n) k hm hn (pq_isD m) (pq_isD n) hk (by rw [pq_vl, pq_vl]; exact h0)
 rw [pq_vl, pq_vl] at this
 exact this
theorem pq_len_add {m n k : Nat} (hm : (pq m).length ≤ k) (hn : (pq n).length ≤ k) : (pq (m + n)).length ≤ k + 1 := by
 refine pq_len_le ?_
 have h3 : m < 10000 ^ k := Nat.lt_of_lt_of_le (pq_lt m) (Nat.pow_le_pow_right (by decide) hm)
 have h4 : n < 10000 ^ k := Nat.lt_of_lt_of_le (pq_lt n) (Nat.pow_le_pow_right (by decide) hn)
 rw [Nat.pow_succ]; omega
theorem pq_len_mul {m f k l : Nat} (hm : (pq m).length ≤ k) (hf : (pq f).length ≤ l) : (pq (m * f)).length ≤ k + l := by
 refine pq_len_le ?_
 have h3 : m < 10000 ^ k := Nat.lt_of_lt_of_le (pq_lt m) (Nat.pow_le_pow_right (by decide) hm)
 have h4 : f < 10000 ^ l := Nat.lt_of_lt_of_le (pq_lt f) (Nat.pow_le_pow_right (by decide) hf)
 rw [Nat.pow_add]
 exact Nat.mul_lt_mul'' h3 h4

set_option maxHeartbeats 4000000 in
theorem Tryz.xadd (x y : Int) (hx : dl x ≤ 80000) (hy : dl y ≤ 80000) : Con Tryz.prog Tryz.L 143 [.str (tz x), .str (tz y)] (.str (tz (x + y))) := by
 have px := pq_dl x
 have py := pq_dl y
 refine rule143 Tryz.hL rfl rfl rfl ?_
 (simp only [pc143, rs143, oU, oC]; refine ev ?_; try exact ⟨⟩)
 have sx := Tryz.splitZ x (by omega)
 have sy := Tryz.splitZ y (by omega)
 obtain ⟨bx, ebx, vx⟩ := sgn_b x
 obtain ⟨by', eby, vy⟩ := sgn_b y
 rw [ebx] at sx
 rw [eby] at sy
 have tx := Tryz.take (dd x.natAbs) (dd_isDec _) (by have : (dd x.natAbs).length = dl x := rfl; omega)
 have ty := Tryz.take (dd y.natAbs) (dd_isDec _) (by have : (dd y.natAbs).length = dl y := rfl; omega)
 rw [dd_dva] at tx ty
 have hless := Tryz.rless x.natAbs y.natAbs (by omega) (by omega)
 have lad := pq_len_add (k := 80000) (m := x.natAbs) (n := y.natAbs) (by omega) (by omega)
 have jn := Tryz.n_joined
 have cl := Tryz.made
 have bry := Tryz.brief y (by omega)
 have brx := Tryz.brief x (by omega)
 have off := fun h => Tryz.xof (x + y) h
 have s1 := @small17 x
 have s2 := @small17 y
 refine callF_of brx ?_
 clear brx
 split at bry
 all_goals split
 all_goals (refine ev ?_; try exact ⟨⟩)
 all_goals refine callF_of bry ?_
 all_goals (refine ev ?_; try exact ⟨⟩)
 ·rename_i h2 h1
  have s1 := s1 h1
  have s2 := s2 h2
  and_intros <;> try omega
  refine callF_of (off (by rw [inR_i64]; omega)) ?_
  (refine ev ?_; try exact ⟨⟩)
 all_goals
  clear s1 s2 off bry
  refine callF_of sx ?_
  (refine ev ?_; try exact ⟨⟩)
  refine callF_of sy ?_
  (refine ev ?_; try exact ⟨⟩)
  refine callF_of tx ?_
  ((try simp only [nq]); refine ev ?_; try exact ⟨⟩)
  refine callF_of ty ?_
  clear sx sy tx ty
  generalize x.natAbs = m at *
  generalize y.natAbs = n at *
  subst vx vy
  cases bx <;> cases by'
  all_goals ((try simp only [nq]); refine ev ?_; try exact ⟨⟩)
  ·refine callF_of (jn m n 1 (by omega) (by omega) (by omega) (by omega)) ?_
   rw [show ((m : Int) + 1 * n).toNat = m + n by omega]
   ((try simp only [nq]); refine ev ?_; try exact ⟨⟩)
   refine callF_of (cl false (m + n) (by have := pq_len_mono (Nat.sub_le m n); have := pq_len_mono (Nat.sub_le n m); omega)) ?_
   ((try simp only [nq]); refine ev ?_; try exact ⟨⟩)
   refine congrArg D.str (congrArg tz ?_)
   (try simp only [if_true, if_false, Bool.false_eq_true])
   omega
  ·refine callF_of hless ?_
   ((try simp only [nq]); refine ev ?_; try exact ⟨⟩)
   refine ⟨fun h5 => ?_, fun h5 => ?_⟩
   ·refine callF_of (jn n m (-1) (by omega) (by omega) (by omega) (by omega)) ?_
    rw [show ((n : Int) + -1 * m).toNat = n - m by omega]
    ((try simp only [nq]); refine ev ?_; try exact ⟨⟩)
    refine callF_of (cl true (n - m) (by have := pq_len_mono (Nat.sub_le m n); have := pq_len_mono (Nat.sub_le n m); omega)) ?_
    ((try simp only [nq]); refine ev ?_; try exact ⟨⟩)
    refine congrArg D.str (congrArg tz ?_)
    (try simp only [if_true, if_false, Bool.false_eq_true])
    omega
   ·refine callF_of (jn m n (-1) (by omega) (by omega) (by omega) (by omega)) ?_
    rw [show ((m : Int) + -1 * n).toNat = m - n by omega]
    ((try simp only [nq]); refine ev ?_; try exact ⟨⟩)
    refine callF_of (cl false (m - n) (by have := pq_len_mono (Nat.sub_le m n); have := pq_len_mono (Nat.sub_le n m); omega)) ?_
    ((try simp only [nq]); refine ev ?_; try exact ⟨⟩)
    refine congrArg D.str (congrArg tz ?_)
    (try simp only [if_true, if_false, Bool.false_eq_true])
    omega
  ·refine callF_of hless ?_
   ((try simp only [nq]); refine ev ?_; try exact ⟨⟩)
   refine ⟨fun h5 => ?_, fun h5 => ?_⟩
   ·refine callF_of (jn n m (-1) (by omega) (by omega) (by omega) (by omega)) ?_
    rw [show ((n : Int) + -1 * m).toNat = n - m by omega]
    ((try simp only [nq]); refine ev ?_; try exact ⟨⟩)
    refine callF_of (cl false (n - m) (by have := pq_len_mono (Nat.sub_le m n); have := pq_len_mono (Nat.sub_le n m); omega)) ?_
    ((try simp only [nq]); refine ev ?_; try exact ⟨⟩)
    refine congrArg D.str (congrArg tz ?_)
    (try simp only [if_true, if_false, Bool.false_eq_true])
    omega
   ·refine callF_of (jn m n (-1) (by omega) (by omega) (by omega) (by omega)) ?_
    rw [show ((m : Int) + -1 * n).toNat = m - n by omega]
    ((try simp only [nq]); refine ev ?_; try exact ⟨⟩)
    refine callF_of (cl true (m - n) (by have := pq_len_mono (Nat.sub_le m n); have := pq_len_mono (Nat.sub_le n m); omega)) ?_
    ((try simp only [nq]); refine ev ?_; try exact ⟨⟩)
    refine congrArg D.str (congrArg tz ?_)
    (try simp only [if_true, if_false, Bool.false_eq_true])
    omega
  ·refine callF_of (jn m n 1 (by omega) (by omega) (by omega) (by omega)) ?_
   rw [show ((m : Int) + 1 * n).toNat = m + n by omega]
   ((try simp only [nq]); refine ev ?_; try exact ⟨⟩)
   refine callF_of (cl true (m + n) (by have := pq_len_mono (Nat.sub_le m n); have := pq_len_mono (Nat.sub_le n m); omega)) ?_
   ((try simp only [nq]); refine ev ?_; try exact ⟨⟩)
   refine congrArg D.str (congrArg tz ?_)
   (try simp only [if_true, if_false, Bool.false_eq_true])
   omega

theorem Tryz.xsub (x y : Int) (hx : dl x ≤ 80000) (hy : dl y ≤ 80000) : Con Tryz.prog Tryz.L 124 [.str (tz x), .str (tz y)] (.str (tz (x - y))) := by
 refine rule124 Tryz.hL rfl rfl rfl ?_
 (simp only [pc124, rs124, oU, oC]; refine ev ?_; try exact ⟨⟩)
 refine callF_of (Tryz.xneg y (by omega)) ?_
 (refine ev ?_; try exact ⟨⟩)
 refine callF_of (Tryz.xadd x (-y) hx (by rw [dl_neg]; exact hy)) ?_
 (refine ev ?_; try exact ⟨⟩)
 rw [Int.sub_eq_add_neg]
theorem Tryz.xcompare (x y : Int) (hx : dl x ≤ 80000) (hy : dl y ≤ 80000) : Con Tryz.prog Tryz.L 95 [.str (tz x), .str (tz y)] (.int .i64 (cmpZ x y)) := by
 refine rule95 Tryz.hL rfl rfl rfl ?_
 (simp only [pc95, rs95, oU, oC]; refine ev ?_; try exact ⟨⟩)
 refine callF_of (Tryz.xsub x y hx hy) ?_
 (refine ev ?_; try exact ⟨⟩)
 have hd : dl (x - y) ≤ 80001 := by rw [Int.sub_eq_add_neg]; exact dl_add (k := 80000) hx (by rw [dl_neg]; exact hy)
 refine callF_of (Tryz.xsign (x - y) (by omega)) ?_
 (refine ev ?_; try exact ⟨⟩)
 rcases Int.lt_trichotomy x y with h | h | h
 ·rw [Int.sign_eq_neg_one_of_neg (by omega)]; unfold cmpZ; rw [if_pos h]
 ·rw [h, Int.sub_self]; unfold cmpZ; rw [if_neg (by omega), if_neg (by omega)]; rfl
 ·rw [Int.sign_eq_one_of_pos (by omega)]; unfold cmpZ; rw [if_neg (by omega), if_pos h]
end Go.Proofs

/-
 ARITHMETIC: klipperef01: parts, DivMod, Gcd, Right. Own work.
-/
namespace Go.Proofs
open Go Go.Pi Go.RowKit Go.Ar

theorem pq_trim_cons (x r : Nat) (hx : x < 10000) : cutz ((x : Int) :: pq r) = pq (x + 10000 * r) := by
 have hd : isD tt ((x : Int) :: pq r) := by
  intro y hy
  rcases List.mem_cons.1 hy with rfl | hy
  ·exact ⟨by omega, by simp only [tt]; omega⟩
  ·exact pq_isD r y hy
 rw [pq_cut hd]
 congr 1
 have e : vl tt (pq r) = r := pq_vl r
 simp only [vl, e, tt]
 omega
set_option maxHeartbeats 4000000 in
theorem Tryz.xparts (m n : Nat) (hm : (pq m).length ≤ 90000) (hn : (pq n).length ≤ 90000) (h0 : 0 < n) :
  Con Tryz.prog Tryz.L 147 [nq m, nq n] (.tup [nq (m / n), nq (m % n)]) := by
 refine rule147 Tryz.hL rfl rfl rfl ?_
 ((try simp only [nq, pc147, rs147, oU, oC]); refine ev ?_; try exact ⟨⟩)
 rw [repl_ints]
 refine ⟨by omega, by omega, ?_⟩
 refine loopF_of (fun E => ∃ (i : Nat) (q : List Int) (r : Nat) (d7 : D), (d7 = nq r ∨ d7 = .own true 3 0 [] ∧ r = 0) ∧ i ≤ (pq m).length ∧ q.length = (pq m).length ∧ isD tt q ∧ r < n ∧ (∀ k, k < i → q.getD k 0 = 0) ∧
   vl tt q * n + tt ^ i * r + vl tt ((pq m).take i) = m ∧
   E = [(0, nq m), (1, nq n), (6, .own true 3 (pq m).length (ints .i64 q)), (7, d7), (8, .int .i64 ((i : Int) - 1))])
  (fun E => match lk E 8 with | .int _ i => (i + 1).toNat | _ => 0)
  ⟨(pq m).length, List.replicate (pq m).length 0, 0, _, .inr ⟨rfl, rfl⟩, Nat.le_refl _, List.length_replicate, (fun x hx => by rw [List.eq_of_mem_replicate hx]; exact ⟨by decide, by decide⟩), h0, fun i hi => by rw [List.getD_eq_getElem?_getD, List.getElem?_replicate]; split <;> rfl, by rw [vl_repl, List.take_length, pq_vl]; simp, rfl⟩ ?_
 rintro _ ⟨i, q, r, d7, h7, hi, hql, hqd, hr, hz, hv, rfl⟩
 have hpost : i = 0 → r = m % n ∧ vl tt q = ((m / n : Nat) : Int) := by
  rintro rfl
  simp only [List.take_zero, vl, Int.pow_zero, Int.one_mul, Int.add_zero] at hv
  have hq0 := vl_nonneg (B := tt) (by decide) hqd
  obtain ⟨u, hu⟩ : ∃ u : Nat, vl tt q = u := ⟨(vl tt q).toNat, by omega⟩
  have e : m = u * n + r := by
   have : ((u * n + r : Nat) : Int) = m := by rw [Int.natCast_add, Int.natCast_mul, ← hu, hv]
   omega
  rw [hu, e]
  exact ⟨by rw [Nat.add_comm, Nat.add_mul_mod_self_right, Nat.mod_eq_of_lt hr], by rw [Nat.add_comm, Nat.add_mul_div_right _ _ h0, Nat.div_eq_of_lt hr, Nat.zero_add]⟩
 have hround : ∀ j, i = j + 1 → ∃ x : Nat, x < 10000 ∧ (pq m).getD j 0 = x ∧ cutz ((x : Int) :: pq r) = pq (x + 10000 * r) ∧ vl tt q * n + tt ^ j * ((x + 10000 * r : Nat) : Int) + vl tt ((pq m).take j) = m ∧ x + 10000 * r < n * 10000 := by
  rintro j rfl
  have hx := isD_getD (B := tt) (by decide) (pq_isD m) j
  have hxa := vl_take (B := tt) (l := pq m) (k := j) (by omega)
  obtain ⟨x, hx3⟩ : ∃ x : Nat, (pq m).getD j 0 = x := ⟨((pq m).getD j 0).toNat, by omega⟩
  rw [hx3] at hx hxa
  have hx4 : x < 10000 := by have := hx.2; simp only [tt] at this; omega
  refine ⟨x, hx4, hx3, pq_trim_cons x r hx4, ?_, by omega⟩
  rw [hxa] at hv
  rw [← hv, Int.natCast_add, Int.natCast_mul, Int.mul_add, Int.pow_succ, Int.mul_assoc]
  show _ + (_ + tt ^ j * (tt * r)) + _ = _
  omega
 have lr := pq_len_mono (Nat.le_of_lt hr)
 have hfin : ∀ R, R < n * 10000 → (pq R).length ≤ (pq n).length + 1 := fun R hR => pq_len_le (by
  rw [Nat.pow_succ]; exact Nat.lt_of_lt_of_le hR (Nat.mul_le_mul_right _ (Nat.le_of_lt (pq_lt n))))
 rcases h7 with rfl | ⟨rfl, rfl⟩
 all_goals
  ((try simp only [nq]); refine ev ?_; try exact ⟨⟩)
  refine ⟨fun h3 => ?_, fun h3 => ?_⟩
 rotate_left
 ·obtain rfl : i = 0 := by omega
  obtain ⟨rfl, hu⟩ := hpost rfl
  have hc := Tryz.cut q (by omega)
  rw [pq_cut hqd, hu, Int.toNat_natCast, hql] at hc
  refine callF_of hc ?_
  (refine ev ?_; try exact ⟨⟩)
  simp [resD_two, rvD, lk, D.plain, D.isPure, optAll]
 rotate_left
 ·obtain rfl : i = 0 := by omega
  obtain ⟨hr0, hu⟩ := hpost rfl
  have hc := Tryz.cut q (by omega)
  rw [pq_cut hqd, hu, Int.toNat_natCast, hql] at hc
  refine callF_of hc ?_
  (refine ev ?_; try exact ⟨⟩)
  rw [← hr0, pq_zero]
  simp [resD_two, rvD, lk, D.plain, D.isPure, optAll, ints]
 ·obtain ⟨j, hj⟩ : ∃ j, (i : Nat) = j + 1 := ⟨i - 1, by omega⟩
  obtain ⟨x, hx, hxj, hxt, hxv, hxr⟩ := hround j hj
  rw [show ((i : Int) - 1).toNat = j by omega, hxj]
  have ht := Tryz.cut ((x : Int) :: pq r) (by rw [List.length_cons]; omega)
  rw [hxt] at ht
  generalize hR : x + 10000 * r = R at *
  have lR := hfin R hxr
  have hRn : R / n < 10000 := Nat.div_lt_of_lt_mul hxr
  have hmodlt := Nat.mod_lt R h0
  have hdm := Nat.div_add_mod R n
  have hcm : ∀ k : Nat, R < k * n ↔ R / n < k := fun k => (Nat.div_lt_iff_lt_mul h0).symm
  generalize R / n = d at *
  generalize R % n = rb at *
  and_intros <;> try omega
  refine callF_of (show Con _ _ _ [D.sl (1 + (pq r).length) (D.int .i64 x :: ints .i64 (pq r))] _ from by rw [Nat.add_comm]; exact ht) ?_
  ((try simp only [nq]); refine ev ?_; try exact ⟨⟩)
  refine loopF_of (fun E => ∃ lo hi : Nat, lo ≤ d ∧ d ≤ hi ∧ hi ≤ 9999 ∧
    E = [(0, nq m), (1, nq n), (6, .own true 3 (pq m).length (ints .i64 q)), (7, nq R), (8, .int .i64 ((i : Int) - 1)), (9, .int .i64 lo), (10, .int .i64 hi)])
   (fun E => match lk E 9, lk E 10 with | .int _ a, .int _ b => (b - a).toNat | _, _ => 0) ⟨0, 9999, by omega, by omega, by omega, rfl⟩ ?_
  rintro _ ⟨lo, hh, hlo, hhi, h9, rfl⟩
  ((try simp only [nq]); refine ev ?_; try exact ⟨⟩)
  refine ⟨fun h5 => ?_, fun h5 => ?_⟩
  ·obtain ⟨mid, hmid, hm1, hm2, hm3⟩ : ∃ mid : Nat, ((lo : Int) + hh + 1).tdiv 2 = mid ∧ lo < mid ∧ mid ≤ hh ∧ mid ≤ 9999 := ⟨(lo + hh + 1) / 2, by rw [Int.tdiv_eq_ediv_of_nonneg (by omega)]; omega, by omega, by omega, by omega⟩
   rw [hmid]
   have hjn := Tryz.n_joined 0 n mid (by rw [pq_zero]; decide) (by omega) ⟨by omega, by omega⟩ (by have := Nat.zero_le (mid * n); rw [← Int.natCast_mul]; omega)
   rw [show (((0 : Nat) : Int) + (mid : Int) * n).toNat = mid * n by rw [← Int.natCast_mul]; omega] at hjn
   have lmid := pq_len_mul (m := mid) (f := n) (pq_len_le (k := 1) (by omega)) (Nat.le_refl _)
   have hls := Tryz.rless R (mid * n) (by omega) (by omega)
   have hcmp := hcm mid
   and_intros <;> try omega
   refine callF_of (show Con _ _ _ [D.sl 0 [], _, _, _] _ from by simp only [nq, pq_zero] at hjn; exact hjn) ?_
   ((try simp only [nq]); refine ev ?_; try exact ⟨⟩)
   refine callF_of hls ?_
   ((try simp only [nq]); refine ev ?_; try exact ⟨⟩)
   rw [hcmp]
   refine ⟨fun h6 => ⟨by omega, ⟨lo, mid - 1, hlo, by omega, by omega, rfl, by congr 2; omega⟩, by omega⟩, fun h6 => ⟨⟨mid, hh, by omega, hhi, h9, rfl, rfl⟩, by omega⟩⟩
  ·obtain rfl : lo = hh := by omega
   obtain rfl : lo = d := by omega
   have e0 : (R : Int) + -(lo : Int) * n = (rb : Int) := by
    have : ((n * lo + rb : Nat) : Int) = R := by rw [hdm]
    rw [Int.natCast_add, Int.natCast_mul] at this
    rw [Int.neg_mul, Int.mul_comm]; omega
   have hjn := Tryz.n_joined R n (-(lo : Int)) (by omega) (by omega) ⟨by omega, by omega⟩ (by rw [e0]; omega)
   rw [e0, Int.toNat_natCast] at hjn
   have hv2 : vl tt (q.set j (lo : Int)) * n + tt ^ j * (rb : Int) + vl tt ((pq m).take j) = m := by
    rw [vl_set (by omega), hz j (by omega), Int.sub_zero, Int.add_mul, ← hxv]
    have e1 : (R : Int) = (lo : Int) * n + (rb : Int) := by rw [← e0, Int.neg_mul]; omega
    have e2 : tt ^ j * (R : Int) = tt ^ j * (lo : Int) * n + tt ^ j * (rb : Int) := by rw [Int.mul_assoc, ← Int.mul_add, ← e1]
    rw [e2]; omega
   have hz2 : ∀ k, k < j → (q.set j (lo : Int)).getD k 0 = 0 := fun k hk => by rw [getD_set_ne (by omega)]; exact hz k (by omega)
   have hd3 := isD_set (j := j) (d := (lo : Int)) hqd ⟨by omega, by simp only [tt]; omega⟩
   rw [show ((i : Int) - 1).toNat = j by omega]
   and_intros <;> try omega
   refine callF_of (show Con _ _ _ [_, _, D.int .i64 (0 - (lo : Int)), _] _ from by rw [Int.zero_sub]; exact hjn) ?_
   ((try simp only [nq]); refine ev ?_; try exact ⟨⟩)
   exact ⟨by omega, ⟨j, q.set j lo, rb, _, .inl rfl, by omega, by rw [List.length_set]; exact hql, hd3, hmodlt, hz2, hv2, rfl, rfl, by congr 2; omega⟩, by omega⟩
 ·obtain ⟨j, hj⟩ : ∃ j, (i : Nat) = j + 1 := ⟨i - 1, by omega⟩
  obtain ⟨x, hx, hxj, hxt, hxv, hxr⟩ := hround j hj
  rw [show ((i : Int) - 1).toNat = j by omega, hxj]
  have ht := Tryz.cut ((x : Int) :: pq 0) (by rw [List.length_cons]; omega)
  rw [hxt] at ht
  generalize hR : x + 10000 * 0 = R at *
  have lR := hfin R hxr
  have hRn : R / n < 10000 := Nat.div_lt_of_lt_mul hxr
  have hmodlt := Nat.mod_lt R h0
  have hdm := Nat.div_add_mod R n
  have hcm : ∀ k : Nat, R < k * n ↔ R / n < k := fun k => (Nat.div_lt_iff_lt_mul h0).symm
  generalize R / n = d at *
  generalize R % n = rb at *
  and_intros <;> try omega
  refine callF_of (show Con _ _ _ [D.sl 1 [D.int .i64 x]] _ from by rw [pq_zero] at ht; exact ht) ?_
  ((try simp only [nq]); refine ev ?_; try exact ⟨⟩)
  refine loopF_of (fun E => ∃ lo hi : Nat, lo ≤ d ∧ d ≤ hi ∧ hi ≤ 9999 ∧
    E = [(0, nq m), (1, nq n), (6, .own true 3 (pq m).length (ints .i64 q)), (7, nq R), (8, .int .i64 ((i : Int) - 1)), (9, .int .i64 lo), (10, .int .i64 hi)])
   (fun E => match lk E 9, lk E 10 with | .int _ a, .int _ b => (b - a).toNat | _, _ => 0) ⟨0, 9999, by omega, by omega, by omega, rfl⟩ ?_
  rintro _ ⟨lo, hh, hlo, hhi, h9, rfl⟩
  ((try simp only [nq]); refine ev ?_; try exact ⟨⟩)
  refine ⟨fun h5 => ?_, fun h5 => ?_⟩
  ·obtain ⟨mid, hmid, hm1, hm2, hm3⟩ : ∃ mid : Nat, ((lo : Int) + hh + 1).tdiv 2 = mid ∧ lo < mid ∧ mid ≤ hh ∧ mid ≤ 9999 := ⟨(lo + hh + 1) / 2, by rw [Int.tdiv_eq_ediv_of_nonneg (by omega)]; omega, by omega, by omega, by omega⟩
   rw [hmid]
   have hjn := Tryz.n_joined 0 n mid (by rw [pq_zero]; decide) (by omega) ⟨by omega, by omega⟩ (by have := Nat.zero_le (mid * n); rw [← Int.natCast_mul]; omega)
   rw [show (((0 : Nat) : Int) + (mid : Int) * n).toNat = mid * n by rw [← Int.natCast_mul]; omega] at hjn
   have lmid := pq_len_mul (m := mid) (f := n) (pq_len_le (k := 1) (by omega)) (Nat.le_refl _)
   have hls := Tryz.rless R (mid * n) (by omega) (by omega)
   have hcmp := hcm mid
   and_intros <;> try omega
   refine callF_of (show Con _ _ _ [D.sl 0 [], _, _, _] _ from by simp only [nq, pq_zero] at hjn; exact hjn) ?_
   ((try simp only [nq]); refine ev ?_; try exact ⟨⟩)
   refine callF_of hls ?_
   ((try simp only [nq]); refine ev ?_; try exact ⟨⟩)
   rw [hcmp]
   refine ⟨fun h6 => ⟨by omega, ⟨lo, mid - 1, hlo, by omega, by omega, rfl, by congr 2; omega⟩, by omega⟩, fun h6 => ⟨⟨mid, hh, by omega, hhi, h9, rfl, rfl⟩, by omega⟩⟩
  ·obtain rfl : lo = hh := by omega
   obtain rfl : lo = d := by omega
   have e0 : (R : Int) + -(lo : Int) * n = (rb : Int) := by
    have : ((n * lo + rb : Nat) : Int) = R := by rw [hdm]
    rw [Int.natCast_add, Int.natCast_mul] at this
    rw [Int.neg_mul, Int.mul_comm]; omega
   have hjn := Tryz.n_joined R n (-(lo : Int)) (by omega) (by omega) ⟨by omega, by omega⟩ (by rw [e0]; omega)
   rw [e0, Int.toNat_natCast] at hjn
   have hv2 : vl tt (q.set j (lo : Int)) * n + tt ^ j * (rb : Int) + vl tt ((pq m).take j) = m := by
    rw [vl_set (by omega), hz j (by omega), Int.sub_zero, Int.add_mul, ← hxv]
    have e1 : (R : Int) = (lo : Int) * n + (rb : Int) := by rw [← e0, Int.neg_mul]; omega
    have e2 : tt ^ j * (R : Int) = tt ^ j * (lo : Int) * n + tt ^ j * (rb : Int) := by rw [Int.mul_assoc, ← Int.mul_add, ← e1]
    rw [e2]; omega
   have hz2 : ∀ k, k < j → (q.set j (lo : Int)).getD k 0 = 0 := fun k hk => by rw [getD_set_ne (by omega)]; exact hz k (by omega)
   have hd3 := isD_set (j := j) (d := (lo : Int)) hqd ⟨by omega, by simp only [tt]; omega⟩
   rw [show ((i : Int) - 1).toNat = j by omega]
   and_intros <;> try omega
   refine callF_of (show Con _ _ _ [_, _, D.int .i64 (0 - (lo : Int)), _] _ from by rw [Int.zero_sub]; exact hjn) ?_
   ((try simp only [nq]); refine ev ?_; try exact ⟨⟩)
   exact ⟨by omega, ⟨j, q.set j lo, rb, _, .inl rfl, by omega, by rw [List.length_set]; exact hql, hd3, hmodlt, hz2, hv2, rfl, rfl, by congr 2; omega⟩, by omega⟩
end Go.Proofs

/-
 ARITHMETIC: klipperef01: DivMod, Gcd, Canonical, Right. Own work.
-/
namespace Go.Proofs
open Go Go.Pi Go.RowKit Go.Ar

theorem td_all (x y : Int) (hy : y ≠ 0) : (x.tmod y < 0 → x.tmod y + (if 0 - y > y then 0 - y else y) = x % y) ∧ (¬x.tmod y < 0 → x.tmod y = x % y ∧ x.tdiv y = x / y) ∧ (x - x % y).tdiv y = x / y := by
 have h3 : (x - x % y).tdiv y = x / y := by
  have := Int.emod_add_mul_ediv x y
  rw [show x - x % y = y * (x / y) by omega, Int.mul_tdiv_cancel_left _ hy]
 refine ⟨?_, ?_, h3⟩
 all_goals
  obtain ⟨bx, _, vx⟩ := sgn_b x
  obtain ⟨by', _, vy⟩ := sgn_b y
  have hm0 : 0 < y.natAbs := by omega
  have n0 := @dm_neg0 x.natAbs y.natAbs hm0
  have n1 := @dm_neg1 x.natAbs y.natAbs hm0
  have p0 := dm_pos x.natAbs y.natAbs
  have hlt := Nat.mod_lt x.natAbs hm0
  have t0 : ((x.natAbs : Nat) : Int).tmod (y.natAbs : Nat) = ((x.natAbs % y.natAbs : Nat) : Int) := rfl
  have d0 : ((x.natAbs : Nat) : Int).tdiv (y.natAbs : Nat) = ((x.natAbs / y.natAbs : Nat) : Int) := rfl
  clear h3
  generalize x.natAbs = m at *
  generalize y.natAbs = n at *
  generalize m % n = r at *
  generalize m / n = q at *
  subst vx vy
  cases bx <;> cases by' <;> simp only [if_true, if_false, Bool.false_eq_true, Int.neg_tmod, Int.tmod_neg, Int.neg_tdiv, Int.tdiv_neg, Int.ediv_neg, Int.emod_neg, t0, d0, Int.neg_neg]
  all_goals
   intro h
   by_cases hr : r = 0
   ·have n0 := n0 hr
    first | (exfalso; omega) | (rw [p0.1, p0.2]; omega) | (rw [n0.1, n0.2]; omega) | (rw [p0.2]; omega) | (rw [n0.2]; omega)
   ·have n1 := n1 hr
    first | (exfalso; omega) | (rw [p0.1, p0.2]; omega) | (rw [n1.1, n1.2]; omega) | (rw [p0.2]; split <;> omega) | (rw [n1.2]; split <;> omega)

theorem pq_one : pq 1 = [1] := by rw [pq_cons (by decide)]; simp [pq_zero]
theorem Tryz.join1 (d : Nat) (h : (pq d).length ≤ 100000) : Con Tryz.prog Tryz.L 149 [nq d, .sl 1 [.int .i64 1], .int .i64 1, .int .i64 0] (nq (d + 1)) := by
 have hj := Tryz.n_joined d 1 1 h (by rw [pq_one]; simp) (by decide) (by omega)
 rw [show ((d : Int) + 1 * ((1 : Nat) : Int)).toNat = d + 1 by omega, show nq 1 = D.sl 1 [.int .i64 1] by unfold nq; rw [pq_one]; rfl] at hj
 exact hj
theorem Tryz.joinm (n r : Nat) (h : (pq n).length ≤ 100000) (hr : r ≤ n) : Con Tryz.prog Tryz.L 149 [nq n, nq r, .int .i64 (-1), .int .i64 0] (nq (n - r)) := by
 have hl := pq_len_mono hr
 have hj := Tryz.n_joined n r (-1) h (by omega) (by decide) (by omega)
 rw [show ((n : Int) + -1 * (r : Int)).toNat = n - r by omega] at hj
 exact hj
set_option maxHeartbeats 4000000 in
theorem Tryz.xdivMod (x y : Int) (hx : dl x ≤ 80000) (hy : dl y ≤ 80000) (hy0 : y ≠ 0) : Con Tryz.prog Tryz.L 126 [.str (tz x), .str (tz y)] (.tup [.str (tz (x / y)), .str (tz (x % y))]) := by
 have px := pq_dl x
 have py := pq_dl y
 refine rule126 Tryz.hL rfl rfl rfl ?_
 (simp only [pc126, rs126, oU, oC]; refine ev ?_; try exact ⟨⟩)
 have sx := Tryz.splitZ x (by omega)
 have sy := Tryz.splitZ y (by omega)
 obtain ⟨bx, ebx, vx⟩ := sgn_b x
 obtain ⟨by', eby, vy⟩ := sgn_b y
 rw [ebx] at sx
 rw [eby] at sy
 have tx := Tryz.take (dd x.natAbs) (dd_isDec _) (by have : (dd x.natAbs).length = dl x := rfl; omega)
 have ty := Tryz.take (dd y.natAbs) (dd_isDec _) (by have : (dd y.natAbs).length = dl y := rfl; omega)
 rw [dd_dva] at tx ty
 have hm0 : 0 < y.natAbs := by omega
 have hdv := Tryz.xparts x.natAbs y.natAbs (by omega) (by omega) hm0
 have jn := Tryz.n_joined
 have cl := Tryz.made
 have bry := Tryz.brief y (by omega)
 have brx := Tryz.brief x (by omega)
 have off := fun z h => Tryz.xof z h
 have s1 := @small17 x
 have s2 := @small17 y
 refine callF_of brx ?_
 clear brx
 split
 all_goals (refine ev ?_; try exact ⟨⟩)
 all_goals refine callF_of bry ?_
 all_goals split
 all_goals (refine ev ?_; try exact ⟨⟩)
 ·rename_i h1 h2
  have s1 := s1 h1
  have s2 := s2 h2
  obtain ⟨f1, f2, f3⟩ := td_all x y hy0
  have b1 := Int.natAbs_ediv_le_natAbs x y
  have b2 : (x % y).natAbs < y.natAbs := by have := Int.emod_nonneg x hy0; have := Int.emod_lt x hy0; omega
  have b3 : (x.tdiv y).natAbs ≤ x.natAbs := by rw [Int.natAbs_tdiv]; exact Nat.div_le_self _ _
  have b4 : (x.tmod y).natAbs < y.natAbs := tmod_lt hy0
  have o1 := off (x / y) (by rw [inR_i64]; omega)
  have o2 := off (x % y) (by rw [inR_i64]; omega)
  refine ⟨hy0, by omega, hy0, fun h => ?_, fun h => ?_⟩
  ·have f1 := f1 h
   rw [f1, f3]
   refine ⟨by omega, by omega, by omega, hy0, by omega, ?_⟩
   refine callF_of o1 ?_
   (refine ev ?_; try exact ⟨⟩)
   refine callF_of o2 ?_
   (refine ev ?_; try exact ⟨⟩)
   simp [resD_two, rvD, lk, D.plain, D.isPure, optAll]
  ·obtain ⟨e1, e2⟩ := f2 h
   rw [e1, e2]
   refine callF_of o1 ?_
   (refine ev ?_; try exact ⟨⟩)
   refine callF_of o2 ?_
   (refine ev ?_; try exact ⟨⟩)
   simp [resD_two, rvD, lk, D.plain, D.isPure, optAll]
 all_goals
  clear s1 s2 off bry
  refine callF_of sx ?_
  (refine ev ?_; try exact ⟨⟩)
  refine callF_of sy ?_
  (refine ev ?_; try exact ⟨⟩)
  refine callF_of tx ?_
  ((try simp only [nq]); refine ev ?_; try exact ⟨⟩)
  refine callF_of ty ?_
  ((try simp only [nq]); refine ev ?_; try exact ⟨⟩)
  have p1 := pq_one
  have hlt := Nat.mod_lt x.natAbs hm0
  have l1 := pq_len_mono (Nat.div_le_self x.natAbs y.natAbs)
  have l2 := pq_len_mono (Nat.le_of_lt hlt)
  have l3 := pq_len_mono (Nat.sub_le y.natAbs (x.natAbs % y.natAbs))
  have l4 := pq_len_add (k := 80000) (m := x.natAbs / y.natAbs) (n := 1) (by omega) (by rw [p1]; simp)
  have hj1 := Tryz.join1 (x.natAbs / y.natAbs) (by omega)
  have hj2 := Tryz.joinm y.natAbs (x.natAbs % y.natAbs) (by omega) (by omega)
  have hz : (0 : Int) < (pq (x.natAbs % y.natAbs)).length ↔ x.natAbs % y.natAbs ≠ 0 := by
   constructor
   ·intro h h2; rw [h2, pq_zero] at h; simp at h
   ·intro h; have := pq_len_pos (Nat.pos_of_ne_zero h); omega
  have n0 := @dm_neg0 x.natAbs y.natAbs hm0
  have n1 := @dm_neg1 x.natAbs y.natAbs hm0
  have p0 := dm_pos x.natAbs y.natAbs
  refine callF_of hdv ?_
  clear sx sy tx hdv ebx eby jn
  generalize x.natAbs = m at *
  generalize y.natAbs = n at *
  generalize m / n = d at *
  generalize m % n = r at *
  subst vx vy
  cases bx <;> cases by'
  all_goals ((try simp only [nq]); refine ev ?_; try exact ⟨⟩)
  ·refine callF_of (cl _ _ (by omega)) ?_
   ((try simp only [nq]); refine ev ?_; try exact ⟨⟩)
   refine callF_of (cl _ _ (by omega)) ?_
   ((try simp only [nq]); refine ev ?_; try exact ⟨⟩)
   simp only [if_true, if_false, Bool.false_eq_true, p0.1, p0.2, Int.ediv_neg, Int.emod_neg, Int.neg_neg]
   simp [resD_two, rvD, lk, D.plain, D.isPure, optAll]
  ·refine callF_of (cl _ _ (by omega)) ?_
   ((try simp only [nq]); refine ev ?_; try exact ⟨⟩)
   refine callF_of (cl _ _ (by omega)) ?_
   ((try simp only [nq]); refine ev ?_; try exact ⟨⟩)
   simp only [if_true, if_false, Bool.false_eq_true, p0.1, p0.2, Int.ediv_neg, Int.emod_neg, Int.neg_neg]
   simp [resD_two, rvD, lk, D.plain, D.isPure, optAll]
  ·rw [show ((0 : Int) < (pq r).length) = (r ≠ 0) from propext hz]
   refine ⟨fun h5 => ?_, fun h5 => ?_⟩
   ·refine callF_of hj1 ?_
    ((try simp only [nq]); refine ev ?_; try exact ⟨⟩)
    refine callF_of ty ?_
    ((try simp only [nq]); refine ev ?_; try exact ⟨⟩)
    refine callF_of hj2 ?_
    ((try simp only [nq]); refine ev ?_; try exact ⟨⟩)
    have n1 := n1 h5
    refine callF_of (cl _ _ (by omega)) ?_
    ((try simp only [nq]); refine ev ?_; try exact ⟨⟩)
    refine callF_of (cl _ _ (by omega)) ?_
    ((try simp only [nq]); refine ev ?_; try exact ⟨⟩)
    simp only [if_true, if_false, Bool.false_eq_true, n1.1, n1.2, Int.ediv_neg, Int.emod_neg, Int.neg_neg]
    simp [resD_two, rvD, lk, D.plain, D.isPure, optAll]
   ·have h5 : r = 0 := Decidable.of_not_not h5
    have n0 := n0 h5
    refine callF_of (cl _ _ (by omega)) ?_
    ((try simp only [nq]); refine ev ?_; try exact ⟨⟩)
    refine callF_of (cl _ _ (by omega)) ?_
    ((try simp only [nq]); refine ev ?_; try exact ⟨⟩)
    simp only [if_true, if_false, Bool.false_eq_true, n0.1, n0.2, h5, Int.ediv_neg, Int.emod_neg, Int.neg_neg]
    simp [resD_two, rvD, lk, D.plain, D.isPure, optAll]
  ·rw [show ((0 : Int) < (pq r).length) = (r ≠ 0) from propext hz]
   refine ⟨fun h5 => ?_, fun h5 => ?_⟩
   ·refine callF_of hj1 ?_
    ((try simp only [nq]); refine ev ?_; try exact ⟨⟩)
    refine callF_of ty ?_
    ((try simp only [nq]); refine ev ?_; try exact ⟨⟩)
    refine callF_of hj2 ?_
    ((try simp only [nq]); refine ev ?_; try exact ⟨⟩)
    have n1 := n1 h5
    refine callF_of (cl _ _ (by omega)) ?_
    ((try simp only [nq]); refine ev ?_; try exact ⟨⟩)
    refine callF_of (cl _ _ (by omega)) ?_
    ((try simp only [nq]); refine ev ?_; try exact ⟨⟩)
    simp only [if_true, if_false, Bool.false_eq_true, n1.1, n1.2, Int.ediv_neg, Int.emod_neg, Int.neg_neg]
    simp [resD_two, rvD, lk, D.plain, D.isPure, optAll]
   ·have h5 : r = 0 := Decidable.of_not_not h5
    have n0 := n0 h5
    refine callF_of (cl _ _ (by omega)) ?_
    ((try simp only [nq]); refine ev ?_; try exact ⟨⟩)
    refine callF_of (cl _ _ (by omega)) ?_
    ((try simp only [nq]); refine ev ?_; try exact ⟨⟩)
    simp only [if_true, if_false, Bool.false_eq_true, n0.1, n0.2, h5, Int.ediv_neg, Int.emod_neg, Int.neg_neg]
    simp [resD_two, rvD, lk, D.plain, D.isPure, optAll]

theorem Tryz.xgcd (x y : Int) (hx : dl x ≤ 80000) (hy : dl y ≤ 80000) : Con Tryz.prog Tryz.L 96 [.str (tz x), .str (tz y)] (.str (tz (Nat.gcd x.natAbs y.natAbs : Nat))) := by
 refine rule96 Tryz.hL rfl rfl rfl ?_
 (simp only [pc96, rs96, oU, oC]; refine ev ?_; try exact ⟨⟩)
 refine callF_of (Tryz.xabs x (by omega)) ?_
 (refine ev ?_; try exact ⟨⟩)
 refine callF_of (Tryz.xabs y (by omega)) ?_
 (refine ev ?_; try exact ⟨⟩)
 refine loopF_of (fun E => ∃ u v : Nat, dl (u : Int) ≤ 80000 ∧ dl (v : Int) ≤ 80000 ∧ Nat.gcd u v = Nat.gcd x.natAbs y.natAbs ∧ E = [(0, .str (tz (u : Int))), (1, .str (tz (v : Int)))])
  (fun E => match lk E 1 with | .str s => dva 0 s | _ => 0) ⟨x.natAbs, y.natAbs, hx, hy, rfl, rfl⟩ ?_
 rintro _ ⟨u, v, hu, hv, hg, rfl⟩
 (refine ev ?_; try exact ⟨⟩)
 rw [tz_zero]
 refine ⟨fun h => ?_, fun h => ?_⟩
 ·have hv0 : 0 < v := by omega
  have hlt := Nat.mod_lt u hv0
  refine callF_of (Tryz.xdivMod u v hu hv (by omega)) ?_
  (refine ev ?_; try exact ⟨⟩)
  rw [show (u : Int) % (v : Int) = ((u % v : Nat) : Int) from rfl]
  refine ⟨⟨v, u % v, hv, Nat.le_trans (dd_len_mono (Nat.le_of_lt hlt)) hv, by rw [gcd_next]; exact hg, rfl, rfl⟩, ?_⟩
  rw [dd_tz, dd_tz, dd_dva, dd_dva]; exact hlt
 ·have h : v = 0 := by omega
  subst h
  rw [Nat.gcd_zero_right] at hg
  rw [hg]

theorem Tryz.canonical (s : List UInt8) (hs : s.length ≤ 1000000) : Con Tryz.prog Tryz.L 121 [.str s] (.bool (dB (canon s))) := by
 refine rule121 Tryz.hL rfl rfl rfl ?_
 (simp only [pc121, rs121, oU, oC]; refine ev ?_; try exact ⟨⟩)
 refine callF_of (Tryz.split s (by omega)) ?_
 have hlen : (unDash s).length ≤ s.length := by unfold unDash; split <;> simp
 unfold canon
 have g48 := fun h => getD_head (t := unDash s) h 48
 have hdec := isDec_take_iff (t := unDash s)
 generalize unDash s = t at *
 (refine ev ?_; try exact ⟨⟩)
 have e48 : (((48 : UInt8).toNat : Nat) : Int) = 48 := rfl
 rw [e48] at g48
 refine loopF_of (fun E => ∃ k : Nat, k ≤ t.length ∧ (∀ j, j < k → 48 ≤ (t.getD j 0).toNat ∧ (t.getD j 0).toNat ≤ 57) ∧ E = [(3, .bool (dB (isMinus s))), (4, .str t), (5, .int .i64 k)])
  (fun E => match lk E 5 with | .int _ i => t.length - i.toNat | _ => 0) ⟨0, by omega, fun j hj => absurd hj (by omega), rfl⟩ ?_
 rintro _ ⟨k, hk, hall, rfl⟩
 (refine ev ?_; try exact ⟨⟩)
 refine ⟨fun h6 => ⟨by omega, fun h7 => ⟨by omega, fun h8 => ?_, fun h8 => ⟨by omega, ⟨k + 1, by omega, fun j hj => ?_, rfl⟩, by omega⟩⟩, fun h7 => ?_⟩, fun h6 => ⟨fun h1 => ⟨by omega, fun h3 => ⟨fun h5 => ⟨fun h4 => ?_, fun h4 => ?_⟩, fun h5 => ?_⟩, fun h3 => ?_⟩, fun h1 => ?_⟩⟩
 ·rw [dB_f (fun h => by have := hdec.1 h.1 k (by omega); omega)]
 ·rcases Nat.lt_or_ge j k with h | h
  ·exact hall j h
  ·obtain rfl : j = k := by omega
   exact ⟨by omega, by omega⟩
 ·rw [dB_f (fun h => by have := hdec.1 h.1 k (by omega); omega)]
 all_goals have hd := hdec.2 (fun j hj => hall j (by omega))
 ·have hne : t ≠ [] := fun h => by rw [h] at h1; simp at h1
  rw [dB_f (fun h => by have := (h.2.2 ((g48 hne).1 h3)).1; omega)]
 ·have hne : t ≠ [] := fun h => by rw [h] at h1; simp at h1
  rw [dB_t ⟨hd, hne, fun _ => ⟨by omega, h5⟩⟩]
 ·have hne : t ≠ [] := fun h => by rw [h] at h1; simp at h1
  rw [dB_f (fun h => (h.2.2 ((g48 hne).1 h3)).2 h5)]
 ·have hne : t ≠ [] := fun h => by rw [h] at h1; simp at h1
  rw [dB_t ⟨hd, hne, fun h => absurd ((g48 hne).2 h) h3⟩]
 ·rw [dB_f (fun h => h.2.1 (List.eq_nil_of_length_eq_zero (by omega)))]
theorem Tryz.xright (s : List UInt8) (hs : s.length ≤ 1000000) : Con Tryz.prog Tryz.L 93 [.str s] (.bool (dB (okZ s))) := by
 refine rule93 Tryz.hL rfl rfl rfl ?_
 (simp only [pc93, rs93, oU, oC]; refine ev ?_; try exact ⟨⟩)
 refine callF_of (Tryz.split s (by omega)) ?_
 (refine ev ?_; try exact ⟨⟩)
 refine callF_of (Tryz.canonical s hs) ?_
 (refine ev ?_; try exact ⟨⟩)
 rw [show okZ s = (canon s ∧ (unDash s).length ≤ 200) from propext (okZ_iff s)]
 refine ⟨fun h => ?_, fun h => ?_⟩
 all_goals first
  | (refine congrArg D.bool (congrArg dB (propext ⟨fun h2 => ?_, fun h2 => ?_⟩)) <;> first | exact ⟨h, by omega⟩ | (have := h2.2; omega))
  | (refine congrArg dB (propext ⟨fun h2 => ?_, fun h2 => ?_⟩) <;> first | exact ⟨h, by omega⟩ | (have := h2.2; omega))
  | rw [dB_f (fun h2 => h h2.1)]
end Go.Proofs

/-
 ARITHMETIC: klipperef02: Parts, Right. Own work.
-/
namespace Go.Proofs
open Go Go.Pi Go.RowKit Go.Ar

theorem Tryz.idxB (l : List UInt8) (c : UInt8) : Con Tryz.prog Tryz.L 94 [.str l, .int .u8 c.toNat] (.int .i64 (Lib.indexByte l c)) := by
 refine rule94 Tryz.hL rfl rfl rfl ?_
 (simp only [pc94, rs94, oU, oC]; refine ev ?_; try exact ⟨⟩)
 refine callF_of (Tryz.c122 l c) ?_
 (refine ev ?_; try exact ⟨⟩)
theorem Tryz.idx47 (l : List UInt8) : Con Tryz.prog Tryz.L 94 [.str l, .int .u8 47] (.int .i64 (Lib.indexByte l 47)) := Tryz.idxB l 47
theorem Tryz.xpartsN (s : List UInt8) (h : ∀ x ∈ s, x ≠ 47) : Con Tryz.prog Tryz.L 92 [.str s] (.tup [.str s, .str [49]]) := by
 refine rule92 Tryz.hL rfl rfl rfl ?_
 (simp only [pc92, rs92, oU, oC]; refine ev ?_; try exact ⟨⟩)
 refine callF_of (Tryz.idx47 s) ?_
 rw [idxB_none h]
 (refine ev ?_; try exact ⟨⟩)
 simp [resD_two, rvD, lk, D.plain, D.isPure, optAll]
theorem Tryz.xpartsY (a b : List UInt8) (hl : a.length + b.length ≤ 1000000000) (h : ∀ x ∈ a, x ≠ 47) : Con Tryz.prog Tryz.L 92 [.str (a ++ 47 :: b)] (.tup [.str a, .str b]) := by
 refine rule92 Tryz.hL rfl rfl rfl ?_
 (simp only [pc92, rs92, oU, oC]; refine ev ?_; try exact ⟨⟩)
 refine callF_of (Tryz.idx47 (a ++ 47 :: b)) ?_
 rw [idxB_some h]
 have hlen : (a ++ 47 :: b).length = a.length + b.length + 1 := by simp; omega
 have e1 := take_mid (a := a) (b := b) (c := 47)
 have e2 := drop_mid (a := a) (b := b) (c := 47)
 generalize a ++ 47 :: b = s at *
 (refine ev ?_; try exact ⟨⟩)
 refine ⟨fun h => absurd h (by omega), fun _ => ?_⟩
 rw [show ((a.length : Int) + 1).toNat = a.length + 1 by omega, List.take_length, e1, e2]
 and_intros <;> try omega
 simp [resD_two, rvD, lk, D.plain, D.isPure, optAll]
theorem Tryz.qright (s : List UInt8) (hs : s.length ≤ 1000000) : Con Tryz.prog Tryz.L 63 [.str s] (.bool (dB (okR s))) := by
 refine rule63 Tryz.hL rfl rfl rfl ?_
 (simp only [pc63, rs63, oU, oC]; refine ev ?_; try exact ⟨⟩)
 have ok1 : okZ [49] := ⟨1, (tz_one.2 rfl).symm, by rw [dl_one]; decide⟩
 rcases cut_cases s 47 with h | ⟨a, b, rfl, h⟩
 ·rw [show okR s = okZ s from propext (okR_int h)]
  have hi := Tryz.idx47 s
  rw [idxB_none h] at hi
  refine callF_of (Tryz.xpartsN s h) ?_
  (refine ev ?_; try exact ⟨⟩)
  refine callF_of (Tryz.xright s hs) ?_
  (refine ev ?_; try exact ⟨⟩)
  refine ⟨fun h2 => ?_, fun h2 => ?_⟩
  ·refine callF_of (Tryz.xright [49] (by simp)) ?_
   (refine ev ?_; try exact ⟨⟩)
   refine ⟨fun h3 => absurd ok1 h3, fun h3 => ?_⟩
   refine callF_of hi ?_
   (refine ev ?_; try exact ⟨⟩)
   rw [dB_t (Classical.not_not.1 h2)]
  ·rw [dB_f h2]
 ·have hl : a.length + b.length ≤ 1000000 := by rw [List.length_append, List.length_cons] at hs; omega
  have hi := Tryz.idx47 (a ++ 47 :: b)
  rw [idxB_some h] at hi
  refine callF_of (Tryz.xpartsY a b (by omega) h) ?_
  (refine ev ?_; try exact ⟨⟩)
  refine callF_of (Tryz.xright a (by omega)) ?_
  (refine ev ?_; try exact ⟨⟩)
  rw [show okR (a ++ 47 :: b) = _ from propext (okR_frac h)]
  refine ⟨fun h2 => ?_, fun h2 => by rw [dB_f (fun ⟨n, d, e1, _, e3, _⟩ => h2 ⟨n, e1, e3⟩)]⟩
  obtain ⟨n, rfl, hn⟩ := Classical.not_not.1 h2
  refine callF_of (Tryz.xright b (by omega)) ?_
  (refine ev ?_; try exact ⟨⟩)
  refine ⟨fun h3 => by rw [dB_f (fun ⟨n, d, _, e2, _, e4, _⟩ => h3 ⟨d, by rw [e2, dd_tz], e4⟩)], fun h3 => ?_⟩
  obtain ⟨y, rfl, hy⟩ := Classical.not_not.1 h3
  have hcm := Tryz.xcompare y 1 (by omega) (by rw [dl_one]; decide)
  rw [(tz_one).2 rfl] at hcm
  refine callF_of hi ?_
  (refine ev ?_; try exact ⟨⟩)
  refine ⟨fun h4 => absurd h4 (by omega), fun _ => ?_⟩
  refine callF_of hcm ?_
  (refine ev ?_; try exact ⟨⟩)
  rw [tz_zero]
  have hcz : 0 < cmpZ y 1 ↔ 1 < y := by unfold cmpZ; split <;> (try split) <;> omega
  rw [hcz]
  have key : (∃ (n' : Int) (d : Nat), tz n = tz n' ∧ tz y = dd d ∧ dl n' ≤ 200 ∧ (dd d).length ≤ 200 ∧ 1 < d ∧ Nat.gcd n'.natAbs d = 1) ↔ 1 < y ∧ Nat.gcd n.natAbs y.natAbs = 1 := by
   constructor
   ·rintro ⟨n', d, e1, e2, e3, e4, e5, e6⟩
    have e7 : y = d := tz_inj (by rw [e2, dd_tz])
    rw [tz_inj e1, e7]; exact ⟨by omega, e6⟩
   ·rintro ⟨e1, e2⟩
    refine ⟨n, y.natAbs, rfl, ?_, hn, hy, by omega, e2⟩
    rw [← dd_tz]; congr 1; omega
  rw [show (∃ (n' : Int) (d : Nat), tz n = tz n' ∧ tz y = dd d ∧ dl n' ≤ 200 ∧ (dd d).length ≤ 200 ∧ 1 < d ∧ Nat.gcd n'.natAbs d = 1) = _ from propext key]
  have hg := Tryz.xgcd n y (by omega) (by omega)
  refine ⟨fun h4 => ⟨fun h5 => ?_, fun h5 => ?_⟩, fun h4 => by rw [dB_f (fun h => h4 h.1)]⟩
  ·refine callF_of hg ?_
   (refine ev ?_; try exact ⟨⟩)
   rw [tz_one]
   first | refine congrArg D.bool (congrArg dB (propext ⟨fun h6 => ⟨h4, by omega⟩, fun h6 => by have := h6.2; omega⟩)) | refine congrArg dB (propext ⟨fun h6 => ⟨h4, by omega⟩, fun h6 => by have := h6.2; omega⟩)
  ·have h5 : n = 0 := Decidable.of_not_not h5
   rw [dB_f (fun h => by rw [h5] at h; have := h.2; rw [show (0 : Int).natAbs = 0 from rfl, Nat.gcd_zero_left] at this; omega)]
end Go.Proofs

/-
 POLYLINE: the law's right; L02.Right. Own work.
-/
namespace Go.Proofs
open Go Go.Pi Go.RowKit Go.Ar Go.Ge

theorem Tryz.l02right (s : List UInt8) (hs : s.length ≤ 1000000) : Con Tryz.prog Tryz.L 40 [.str s] (.bool (dB (okR s))) := by
 refine rule40 Tryz.hL rfl rfl rfl ?_
 (simp only [pc40, rs40, oU, oC]; refine ev ?_; try exact ⟨⟩)
 refine callF_of (Tryz.qright s hs) ?_
 (refine ev ?_; try exact ⟨⟩)
theorem Tryz.lright (s t : List UInt8) (hs : s.length ≤ 1000000) (ht : t.length ≤ 1000000) : Con Tryz.prog Tryz.L 15 [.agg [.str s, .str t]] (.bool (dB (okR s ∧ okR t))) := by
 refine rule15 Tryz.hL rfl rfl rfl ?_
 (simp only [pc15, rs15, oU, oC]; refine ev ?_; try exact ⟨⟩)
 refine callF_of (Tryz.l02right s hs) ?_
 (refine ev ?_; try exact ⟨⟩)
 refine ⟨fun h => ?_, fun h => ?_⟩
 ·refine callF_of (Tryz.l02right t ht) ?_
  (refine ev ?_; try exact ⟨⟩)
  simp [h]
 ·rw [dB_f (fun k => h k.1)]
theorem Tryz.lrightP (p : Pt) (h : Sz 30 p) : Con Tryz.prog Tryz.L 15 [ptD p] (.bool true) := by
 have h1 : okR (rt p.1) := (okR_rt p.1).2 (by have := h.1; omega)
 have h2 : okR (rt p.2) := (okR_rt p.2).2 (by have := h.2; omega)
 have l1 := rt_len p.1; have l2 := rt_len p.2
 have := Tryz.lright (rt p.1) (rt p.2) (by have := h.1; omega) (by have := h.2; omega)
 rw [dB_t ⟨h1, h2⟩] at this
 exact this
end Go.Proofs

/-
 POLYLINE: Ring, total, Area. Own work.
-/
namespace Go.Proofs
open Go Go.Pi Go.RowKit Go.Ar Go.Ge

theorem ringprev {n i : Nat} (hi : i < n) : (i + n - 1) % n < n ∧ ((i + n - 1) % n + 1) % n = i := by
 have h0 : 0 < n := by omega
 refine ⟨Nat.mod_lt _ h0, ?_⟩
 by_cases h : i = 0
 ·subst h
  rw [show 0 + n - 1 = n - 1 by omega, Nat.mod_eq_of_lt (show n - 1 < n by omega), show n - 1 + 1 = n by omega, Nat.mod_self]
 ·rw [show i + n - 1 = (i - 1) + n by omega, Nat.add_mod_right, Nat.mod_eq_of_lt (show i - 1 < n by omega), show i - 1 + 1 = i by omega, Nat.mod_eq_of_lt hi]
theorem ringnext {n j : Nat} (hj : j < n) : (j + 1) % n < n ∧ ((j + 1) % n + n - 1) % n = j := by
 have h0 : 0 < n := by omega
 refine ⟨Nat.mod_lt _ h0, ?_⟩
 by_cases h : j + 1 = n
 ·rw [h, Nat.mod_self, show 0 + n - 1 = j by omega, Nat.mod_eq_of_lt hj]
 ·rw [Nat.mod_eq_of_lt (show j + 1 < n by omega), show j + 1 + n - 1 = j + n by omega, Nat.add_mod_right, Nat.mod_eq_of_lt hj]
set_option maxRecDepth 100000 in
set_option maxHeartbeats 4000000 in
theorem Tryz.pringL (c : List Pt) (hlen : c.length ≤ 1000) (hsz : ∀ p ∈ c, Sz 30 p) : Con Tryz.prog Tryz.L 36 [chn c] (.int .i64 (chkN c true)) := by
 refine rule36 Tryz.hL rfl rfl rfl ?_
 (simp only [pc36, rs36, oU, oC]; refine ev ?_; try exact ⟨⟩)
 have hg : ∀ j, j < c.length → c[j]? = some (gt c j) := fun j hj => by
  rw [List.getElem?_eq_getElem hj]; simp [gt, List.getD_eq_getElem?_getD, hj]
 have hsg : segs c true = c.length := rfl
 unfold chkN
 rw [hsg]
 simp only [if_true]
 refine ⟨fun h => by rw [if_pos (by omega)], fun h => ⟨fun h2 => by rw [if_neg (by omega), if_pos (by omega)], fun h2 => ?_⟩⟩
 rw [if_neg (by omega), if_neg (by omega)]
 refine loopF_of (fun E => ∃ i : Nat, i ≤ c.length ∧ (∀ j, j < i → gt c ((j + c.length - 1) % c.length) ≠ gt c j) ∧ E = [(0, chn c), (13, chn c), (14, .int .i64 c.length), (15, .int .i64 i)])
  (fun E => match lk E 15 with | .int _ i => c.length - i.toNat | _ => 0) ⟨0, by omega, fun _ h => absurd h (by omega), rfl⟩ ?_
 rintro _ ⟨i, hi, hno, rfl⟩
 simp only [evX, evY, evZ, forall_const, implies_true, initE, stepF, D.clean, mvF, moF, tkF, shF, ariF, ciF, catF, scF, ebF, eqF, eqOk, eqPr, enF, notF, ngF, cvF, csF, csbF, lenF, lenSF, ixF, iaF, PX.slot, iaAF, faF, ldF, D.mem, stF, bxF, mkSF, boundF, fldF, ixAF, mmF2, D.plain, D.isPure, optAll, D.dull, callVF, splice, D.cells, D.one, sets, resT, D.flat, D.flat0, D.simple, Nat.reduceBNe, Nat.reduceLT, reduceIte, Nat.reduceEqDiff, Nat.reduceAdd, Nat.reduceMul, Nat.reduceSub, Nat.reduceLeDiff, Int.reduceToNat, Int.reduceLT, Int.reduceLE, Int.reduceEq, Int.reduceNeg, Int.reduceSub, Int.reduceAdd, Int.reduceMul, stG_own, ldC_pts]
 refine ⟨fun h1 => ?_, fun h1 => ?_⟩
 ·refine ⟨⟨by omega, by omega, by rw [pts_len]; omega⟩, _, hg i (by omega), ?_⟩
  have hz : Sz 200 (gt c i) := (hsz _ (List.mem_of_getElem? (hg i (by omega)))).more (by decide)
  have hcp := Tryz.ppoint (gt c i) hz
  generalize hx : gt c i = x at *
  simp only [pD, evX, evY, evZ, forall_const, implies_true, initE, stepF, D.clean, mvF, moF, tkF, shF, ariF, ciF, catF, scF, ebF, eqF, eqOk, eqPr, enF, notF, ngF, cvF, csF, csbF, lenF, lenSF, ixF, iaF, PX.slot, iaAF, faF, ldF, D.mem, stF, bxF, mkSF, boundF, fldF, ixAF, mmF2, D.plain, D.isPure, optAll, D.dull, callVF, splice, D.cells, D.one, sets, resT, D.flat, D.flat0, D.simple, Nat.reduceBNe, Nat.reduceLT, reduceIte, Nat.reduceEqDiff, Nat.reduceAdd, Nat.reduceMul, Nat.reduceSub, Nat.reduceLeDiff, Int.reduceToNat, Int.reduceLT, Int.reduceLE, Int.reduceEq, Int.reduceNeg, Int.reduceSub, Int.reduceAdd, Int.reduceMul, stG_own]
  refine callF_of hcp ?_
  simp only [evX, evY, evZ, forall_const, implies_true, initE, stepF, D.clean, mvF, moF, tkF, shF, ariF, ciF, catF, scF, ebF, eqF, eqOk, eqPr, enF, notF, ngF, cvF, csF, csbF, lenF, lenSF, ixF, iaF, PX.slot, iaAF, faF, ldF, D.mem, stF, bxF, mkSF, boundF, fldF, ixAF, mmF2, D.plain, D.isPure, optAll, D.dull, callVF, splice, D.cells, D.one, sets, resT, D.flat, D.flat0, D.simple, Nat.reduceBNe, Nat.reduceLT, reduceIte, Nat.reduceEqDiff, Nat.reduceAdd, Nat.reduceMul, Nat.reduceSub, Nat.reduceLeDiff, Int.reduceToNat, Int.reduceLT, Int.reduceLE, Int.reduceEq, Int.reduceNeg, Int.reduceSub, Int.reduceAdd, Int.reduceMul, stG_own, ldC_pts]
  obtain ⟨q1, q2⟩ := ringprev (show i < c.length by omega)
  have e1 : ((i : Int) + (c.length : Int) - 1).tmod (c.length : Int) = (((i + c.length - 1) % c.length : Nat) : Int) := by
   rw [show (i : Int) + (c.length : Int) - 1 = ((i + c.length - 1 : Nat) : Int) by omega]; rfl
  have hg1 := hg _ q1
  have hno' := hno
  rw [e1]
  simp only [Int.toNat_natCast]
  generalize hk : (i + c.length - 1) % c.length = k at *
  refine ⟨⟨by omega, by omega⟩, ⟨by omega, by omega⟩, by omega, ⟨by omega, by omega, by rw [pts_len]; omega⟩, gt c k, hg1, eqOk_pt _ x, fun h4 => ?_, fun h4 => ⟨⟨by omega, by omega⟩, ⟨i + 1, by omega, fun j hj => ?_, by simp⟩, by omega⟩⟩
  ·have h5 := (eq_pt (gt c k) x).1 h4
   rw [if_pos (dbl_iff.2 ⟨k, by omega, by rw [q2, hx]; exact h5⟩)]
  ·by_cases e : j = i
   ·intro h5
    rw [e, hk, hx] at h5
    exact h4 ((eq_pt _ x).2 h5)
   ·exact hno j (by omega)
 ·have e : i = c.length := by omega
  subst e
  have hnd : ¬dbl c c.length = true := fun h3 => by
   obtain ⟨j, h4, h5⟩ := dbl_iff.1 h3
   obtain ⟨r1, r2⟩ := ringnext h4
   exact hno _ r1 (by rw [r2]; exact h5)
  rw [if_neg hnd]
  refine callF_of (Tryz.psimple c c.length (by omega) (by omega) hsz) ?_
  (refine ev ?_; try exact ⟨⟩)
/-- the sum of the triangles, up to a place -/
def totK (c : List Pt) : Nat → Rat
 | 0 => 0
 | k + 1 => if 2 ≤ k then totK c k + ar (gt c 0) (gt c (k - 1)) (gt c k) else 0
theorem rd_nought : rd (0 : Rat) ≤ 1 := by
 have h := rd_z 0
 rw [show ((0 : Int) : Rat) = 0 from rfl] at h
 rw [h]
 exact dd_len_le (by decide) (by decide)
theorem ldC_pts0 {l : List Pt} {t : Nat} {N : EP} {E : Env} : ldC true 2 (List.take 2 (pts l)) t N E = (∃ x, l[0]? = some x ∧ N (st1 E t (.agg (pD x)))) := ldC_pts (l := l) (k := 0)
theorem rd_totK {c : List Pt} (hsz : ∀ p ∈ c, Sz 30 p) : ∀ {k : Nat}, k ≤ c.length → rd (totK c k) ≤ 250 * k + 1
 | 0, _ => by show rd 0 ≤ 1; exact rd_nought
 | k + 1, hk => by
   unfold totK
   split
   ·have ih := rd_totK hsz (k := k) (by omega)
    have hz : ∀ j, j < c.length → Sz 30 (gt c j) := fun j hj => hsz _ (List.mem_of_getElem? (show c[j]? = some (gt c j) by rw [List.getElem?_eq_getElem hj]; simp [gt, List.getD_eq_getElem?_getD, hj]))
    have h1 := rd_ar30 (hz 0 (by omega)) (hz (k - 1) (by omega)) (hz k (by omega))
    have h2 := rd_add (totK c k) (ar (gt c 0) (gt c (k - 1)) (gt c k))
    omega
   ·have := rd_nought
    omega
set_option maxHeartbeats 4000000 in
theorem Tryz.ptotal (c : List Pt) (hlen : c.length ≤ 8) (h3 : 3 ≤ c.length) (hsz : ∀ p ∈ c, Sz 30 p) : Con Tryz.prog Tryz.L 37 [chn c] (.str (rt (totK c c.length))) := by
 have hg : ∀ j, j < c.length → c[j]? = some (gt c j) := fun j hj => by
  rw [List.getElem?_eq_getElem hj]; simp [gt, List.getD_eq_getElem?_getD, hj]
 have hz : ∀ j, j < c.length → Sz 30 (gt c j) := fun j hj => hsz _ (List.mem_of_getElem? (hg j hj))
 refine rule37 Tryz.hL rfl rfl rfl ?_
 (simp only [pc37, rs37, oU, oC]; refine ev ?_; try exact ⟨⟩)
 refine loopF_of (fun E => ∃ k : Nat, 2 ≤ k ∧ k ≤ c.length ∧ E = [(0, chn c), (3, .str (rt (totK c k))), (4, .int .i64 k)])
  (fun E => match lk E 4 with | .int _ i => c.length - i.toNat | _ => 0) ⟨2, by omega, by omega, by rw [show totK c 2 = 0 from rfl, zero_txt]; rfl⟩ ?_
 rintro _ ⟨k, hk2, hk, rfl⟩
 simp only [evX, evY, evZ, forall_const, implies_true, initE, stepF, D.clean, mvF, moF, tkF, shF, ariF, ciF, catF, scF, ebF, eqF, eqOk, eqPr, enF, notF, ngF, cvF, csF, csbF, lenF, lenSF, ixF, iaF, PX.slot, iaAF, faF, ldF, D.mem, stF, bxF, mkSF, boundF, fldF, ixAF, mmF2, D.plain, D.isPure, optAll, D.dull, callVF, splice, D.cells, D.one, sets, resT, D.flat, D.flat0, D.simple, Nat.reduceBNe, Nat.reduceLT, reduceIte, Nat.reduceEqDiff, Nat.reduceAdd, Nat.reduceMul, Nat.reduceSub, Nat.reduceLeDiff, Int.reduceToNat, Int.reduceLT, Int.reduceLE, Int.reduceEq, Int.reduceNeg, Int.reduceSub, Int.reduceAdd, Int.reduceMul, stG_own, ldC_pts, ldC_pts0]
 refine ⟨fun h1 => ?_, fun h1 => ?_⟩
 ·have hr := rd_totK hsz (k := k) (by omega)
  have ha := rd_ar30 (hz 0 (by omega)) (hz (k - 1) (by omega)) (hz k (by omega))
  have e1 : ((k : Int) - 1).toNat = k - 1 := by omega
  rw [e1]
  refine ⟨⟨by omega, by rw [pts_len]; omega⟩, _, hg 0 (by omega), ⟨by omega, by omega⟩, ⟨by omega, by omega, by rw [pts_len]; omega⟩, _, hg (k - 1) (by omega), ⟨by omega, by omega, by rw [pts_len]; omega⟩, _, hg k (by omega), ?_⟩
  refine callF_of (Tryz.parea _ _ _ ((hz 0 (by omega)).more (by decide)) ((hz (k - 1) (by omega)).more (by decide)) ((hz k (by omega)).more (by decide))) ?_
  (refine ev ?_; try exact ⟨⟩)
  refine callF_of (Tryz.radd _ _ (by omega) (by omega)) ?_
  (refine ev ?_; try exact ⟨⟩)
  have e2 : totK c (k + 1) = totK c k + ar (gt c 0) (gt c (k - 1)) (gt c k) := by
   show (if 2 ≤ k then _ else _) = _
   rw [if_pos hk2]
  exact ⟨⟨by omega, by omega⟩, ⟨k + 1, by omega, by omega, by rw [e2]; exact ⟨rfl, rfl⟩⟩, by omega⟩
 ·have e : k = c.length := by omega
  subst e
  rfl
set_option maxHeartbeats 4000000 in
theorem Tryz.pareaR (c : List Pt) (hlen : c.length ≤ 8) (hsz : ∀ p ∈ c, Sz 30 p) (hc : chkN c true = 0) (hr : rd (totK c c.length) ≤ 200) : Con Tryz.prog Tryz.L 13 [chn c] (.tup [.str (rt (totK c c.length)), .int .i64 0]) := by
 have h3 : 3 ≤ c.length := by
  unfold chkN at hc
  by_cases h : c.length < 3
  ·rw [if_pos (by simpa using h)] at hc; exact absurd hc (by decide)
  ·omega
 have c1 := Tryz.pringL c (by omega) hsz
 rw [hc] at c1
 refine rule13 Tryz.hL rfl rfl rfl ?_
 (simp only [pc13, rs13, oU, oC]; refine ev ?_; try exact ⟨⟩)
 refine callF_of c1 ?_
 (refine ev ?_; try exact ⟨⟩)
 refine callF_of (Tryz.ptotal c hlen h3 hsz) ?_
 (refine ev ?_; try exact ⟨⟩)
 refine callF_of (Tryz.rcheckQ _ hr) ?_
 (refine ev ?_; try exact ⟨⟩)
 simp [resD_two, rvD, lk, D.plain, D.isPure, optAll]
end Go.Proofs

/-
 POLYLINE: the law's check. Own work.
-/
namespace Go.Proofs
open Go Go.Pi Go.RowKit Go.Ar Go.Ge

theorem lmD_num (a b c d : Pt) : ∃ x y : List UInt8, lmD a b c d = .tup [.int .i64 ((meetL a b c d).num : Int), .agg [.str x, .str y]] := by
 unfold lmD meetL
 match onB a b c d [a, b, c, d] with
 | [] =>
   unfold lmO
   by_cases h : 0 ≤ ar c d a * ar c d b ∨ 0 ≤ ar a b c * ar a b d
   ·simp only [if_pos h]; exact ⟨[], [], rfl⟩
   ·simp only [if_neg h]; exact ⟨_, _, rfl⟩
 | [x] => exact ⟨_, _, rfl⟩
 | x :: y :: o => exact ⟨_, _, rfl⟩
set_option maxRecDepth 100000 in
set_option maxHeartbeats 4000000 in
theorem Tryz.lcheck (c : List Pt) (ring : Bool) (hlen : c.length ≤ 400) (hsz : ∀ p ∈ c, Sz 30 p) : Con Tryz.prog Tryz.L 6 [chn c, .bool ring] (.int .i64 (chkN c ring)) := by
 have hg : ∀ j, j < c.length → c[j]? = some (gt c j) := fun j hj => by
  rw [List.getElem?_eq_getElem hj]; simp [gt, List.getD_eq_getElem?_getD, hj]
 refine rule6 Tryz.hL rfl rfl rfl ?_
 cases ring with
 | false =>
   (simp only [pc6, rs6, oU, oC]; refine ev ?_; try exact ⟨⟩)
   have hsg : segs c false = c.length - 1 := rfl
   unfold chkN
   rw [hsg]
   simp only [Bool.false_eq_true, if_false]
   refine ⟨fun h => by rw [if_pos (by omega)], fun h => ⟨fun h2 => by rw [if_neg (by omega), if_pos (by omega)], fun h2 => ?_⟩⟩
   rw [if_neg (by omega), if_neg (by omega)]
   refine loopF_of (fun E => ∃ i : Nat, i ≤ c.length ∧ (∀ j, j + 1 < i → gt c j ≠ gt c (j + 1)) ∧ E = [(0, chn c), (1, .bool false), (6, .int .i64 i)])
    (fun E => match lk E 6 with | .int _ i => c.length - i.toNat | _ => 0) ⟨0, by omega, fun _ h => absurd h (by omega), rfl⟩ ?_
   rintro _ ⟨i, hi, hno, rfl⟩
   simp only [evX, evY, evZ, forall_const, implies_true, initE, stepF, D.clean, mvF, moF, tkF, shF, ariF, ciF, catF, scF, ebF, eqF, eqOk, eqPr, enF, notF, ngF, cvF, csF, csbF, lenF, lenSF, ixF, iaF, PX.slot, iaAF, faF, ldF, D.mem, stF, bxF, mkSF, boundF, fldF, ixAF, mmF2, D.plain, D.isPure, optAll, D.dull, callVF, splice, D.cells, D.one, sets, resT, D.flat, D.flat0, D.simple, Nat.reduceBNe, Nat.reduceLT, reduceIte, Nat.reduceEqDiff, Nat.reduceAdd, Nat.reduceMul, Nat.reduceSub, Nat.reduceLeDiff, Int.reduceToNat, Int.reduceLT, Int.reduceLE, Int.reduceEq, Int.reduceNeg, Int.reduceSub, Int.reduceAdd, Int.reduceMul, stG_own, ldC_pts]
   refine ⟨fun h1 => ?_, fun h1 => ?_⟩
   ·have hz : Sz 30 (gt c i) := hsz _ (List.mem_of_getElem? (hg i (by omega)))
    refine ⟨⟨by omega, by omega, by rw [pts_len]; omega⟩, _, hg i (by omega), ?_⟩
    refine callF_of (Tryz.lrightP (gt c i) hz) ?_
    simp only [evX, evY, evZ, forall_const, implies_true, initE, stepF, D.clean, mvF, moF, tkF, shF, ariF, ciF, catF, scF, ebF, eqF, eqOk, eqPr, enF, notF, ngF, cvF, csF, csbF, lenF, lenSF, ixF, iaF, PX.slot, iaAF, faF, ldF, D.mem, stF, bxF, mkSF, boundF, fldF, ixAF, mmF2, D.plain, D.isPure, optAll, D.dull, callVF, splice, D.cells, D.one, sets, resT, D.flat, D.flat0, D.simple, Nat.reduceBNe, Nat.reduceLT, reduceIte, Nat.reduceEqDiff, Nat.reduceAdd, Nat.reduceMul, Nat.reduceSub, Nat.reduceLeDiff, Int.reduceToNat, Int.reduceLT, Int.reduceLE, Int.reduceEq, Int.reduceNeg, Int.reduceSub, Int.reduceAdd, Int.reduceMul, stG_own, ldC_pts]
    have e1 : ((i : Int) - 1).toNat = i - 1 := by omega
    refine ⟨fun h3 => ?_, fun h3 => ?_⟩
    ·refine ⟨⟨by omega, by omega, by rw [pts_len]; omega⟩, _, hg i (by omega), ⟨by omega, by omega⟩, ⟨by omega, by omega, by rw [pts_len]; omega⟩, gt c (i - 1), by rw [e1]; exact hg _ (by omega), eqOk_pt _ _, fun h4 => ⟨fun h5 => absurd h5 (by omega), fun h5 => ⟨⟨by omega, by omega⟩, ⟨i + 1, by omega, fun j hj => ?_, by simp⟩, by omega⟩⟩, fun h4 => ?_⟩
     ·by_cases e : j + 1 = i
      ·intro h6
       have e2 : j = i - 1 := by omega
       rw [e, e2] at h6
       exact h4 ((eq_pt _ _).2 h6.symm)
      ·exact hno j (by omega)
     ·have h5 := (eq_pt _ _).1 h4
      rw [if_pos (dbl_iff.2 ⟨i - 1, by omega, by rw [show (i - 1 + 1) % c.length = i by rw [Nat.mod_eq_of_lt (by omega)]; omega]; exact h5.symm⟩)]
    ·exact ⟨fun h4 => ⟨⟨by omega, by omega⟩, ⟨i + 1, by omega, fun j hj => absurd hj (by omega), by simp⟩, by omega⟩, fun h4 => absurd (by omega) h4⟩
   ·have e : i = c.length := by omega
    subst e
    have hnd : ¬dbl c (c.length - 1) = true := fun h3 => by
     obtain ⟨j, h4, h5⟩ := dbl_iff.1 h3
     rw [Nat.mod_eq_of_lt (by omega)] at h5
     exact hno j (by omega) h5
    rw [if_neg hnd]
    have hce : crs c (c.length - 1) = crsL c (c.length - 1) := crs_eq (c := c) (ring := false) (by simp; omega) (by simpa [segs] using hnd)
    rw [hce]
    have e1 : (c.length : Int) - 1 = ((c.length - 1 : Nat) : Int) := by omega
    rw [e1]
    refine ⟨⟨by omega, by omega⟩, ?_⟩
    refine loopF_of (fun E => ∃ i : Nat, i ≤ c.length - 1 ∧ (∀ i' k', i' < i → i' < k' → k' < c.length - 1 → ¬crossL (gt c) c.length (c.length - 1) i' k') ∧ E = [(0, chn c), (1, .bool false), (7, .int .i64 (c.length - 1 : Nat)), (8, .int .i64 i)])
     (fun E => match lk E 8 with | .int _ i => c.length - i.toNat | _ => 0) ⟨0, by omega, fun _ _ h => absurd h (by omega), rfl⟩ ?_
    rintro _ ⟨i, hi', hnc, rfl⟩
    (refine ev ?_; try exact ⟨⟩)
    refine ⟨fun h1 => ?_, fun h1 => ?_⟩
    ·refine ⟨⟨by omega, by omega⟩, ?_⟩
     refine loopF_of (fun E => ∃ k : Nat, i < k ∧ k ≤ c.length - 1 ∧ (∀ k', i < k' → k' < k → ¬crossL (gt c) c.length (c.length - 1) i k') ∧ E = [(0, chn c), (1, .bool false), (7, .int .i64 (c.length - 1 : Nat)), (8, .int .i64 i), (9, .int .i64 k)])
      (fun E => match lk E 9 with | .int _ i => c.length - i.toNat | _ => 0) ⟨i + 1, by omega, by omega, fun _ h2 h3 => absurd h3 (by omega), rfl⟩ ?_
     rintro _ ⟨k, hik, hk, hnc2, rfl⟩
     simp only [evX, evY, evZ, forall_const, implies_true, initE, stepF, D.clean, mvF, moF, tkF, shF, ariF, ciF, catF, scF, ebF, eqF, eqOk, eqPr, enF, notF, ngF, cvF, csF, csbF, lenF, lenSF, ixF, iaF, PX.slot, iaAF, faF, ldF, D.mem, stF, bxF, mkSF, boundF, fldF, ixAF, mmF2, D.plain, D.isPure, optAll, D.dull, callVF, splice, D.cells, D.one, sets, resT, D.flat, D.flat0, D.simple, Nat.reduceBNe, Nat.reduceLT, reduceIte, Nat.reduceEqDiff, Nat.reduceAdd, Nat.reduceMul, Nat.reduceSub, Nat.reduceLeDiff, Int.reduceToNat, Int.reduceLT, Int.reduceLE, Int.reduceEq, Int.reduceNeg, Int.reduceSub, Int.reduceAdd, Int.reduceMul, stG_own, ldC_pts]
     refine ⟨fun h2 => ?_, fun h2 => ?_⟩
     ·have m1 : (k + 1) % c.length < c.length := Nat.mod_lt _ (by omega)
      have e2 : ((k : Int) + 1).tmod (c.length : Int) = (((k + 1) % c.length : Nat) : Int) := rfl
      have e3 : ((i : Int) + 1).toNat = i + 1 := by omega
      have e4 : (i + 1) % c.length = i + 1 := Nat.mod_eq_of_lt (by omega)
      have hz : ∀ j, j < c.length → Sz 30 (gt c j) := fun j hj => hsz _ (List.mem_of_getElem? (hg j hj))
      have cm := Tryz.lmeet (gt c i) (gt c (i + 1)) (gt c k) (gt c ((k + 1) % c.length)) (hz _ (by omega)) (hz _ (by omega)) (hz _ (by omega)) (hz _ m1)
      obtain ⟨x, y, hlm⟩ := lmD_num (gt c i) (gt c (i + 1)) (gt c k) (gt c ((k + 1) % c.length))
      rw [hlm] at cm
      have hcr : crossL (gt c) c.length (c.length - 1) i k ↔ (if k = i + 1 then 1 else 0) < (meetL (gt c i) (gt c (i + 1)) (gt c k) (gt c ((k + 1) % c.length))).num := by
       unfold crossL
       rw [e4]
       have : next c.length (c.length - 1) i k ↔ k = i + 1 := by unfold next; omega
       simp only [this]
      generalize (meetL (gt c i) (gt c (i + 1)) (gt c k) (gt c ((k + 1) % c.length))).num = nm at *
      rw [e2, e3]
      simp only [Int.toNat_natCast]
      refine ⟨⟨by omega, by omega, by rw [pts_len]; omega⟩, _, hg i (by omega), ⟨by omega, by omega⟩, ⟨by omega, by omega, by rw [pts_len]; omega⟩, _, hg (i + 1) (by omega), ⟨by omega, by omega, by rw [pts_len]; omega⟩, _, hg k (by omega), ⟨by omega, by omega⟩, by omega, ⟨by omega, by omega, by rw [pts_len]; omega⟩, _, hg _ m1, ?_⟩
      refine callF_of cm ?_
      (refine ev ?_; try exact ⟨⟩)
      have yes : crossL (gt c) c.length (c.length - 1) i k → (26 : Int) = if crsL c (c.length - 1) = true then 26 else 0 := fun hc => by rw [if_pos (crsL_iff.2 ⟨i, k, hik, by omega, hc⟩)]
      have no : ¬crossL (gt c) c.length (c.length - 1) i k → ∃ k_1, i < k_1 ∧ k_1 ≤ c.length - 1 ∧ (∀ (k' : Nat), i < k' → k' < k_1 → ¬crossL (gt c) c.length (c.length - 1) i k') ∧ ((9 : Nat), D.int IntKind.i64 ((k : Int) + 1)) = (9, D.int IntKind.i64 (k_1 : Int)) := fun hc => ⟨k + 1, by omega, by omega, fun k' h3 h4 => by
       by_cases e : k' = k
       ·rw [e]; exact hc
       ·exact hnc2 k' h3 (by omega), by simp⟩
      refine ⟨⟨by omega, by omega⟩, fun h5 => ⟨fun h6 => yes (hcr.2 (by rw [if_neg (by omega)]; omega)), fun h6 => ⟨⟨by omega, by omega⟩, no (fun hc => by have := hcr.1 hc; rw [if_neg (by omega)] at this; omega), by omega⟩⟩,
       fun h5 => ⟨fun h6 => yes (hcr.2 (by rw [if_pos (by omega)]; omega)), fun h6 => ⟨⟨by omega, by omega⟩, no (fun hc => by have := hcr.1 hc; rw [if_pos (by omega)] at this; omega), by omega⟩⟩⟩
     ·refine ⟨⟨by omega, by omega⟩, ⟨i + 1, by omega, fun i' k' h3 h4 h5 => ?_, by simp⟩, by omega⟩
      by_cases e : i' = i
      ·rw [e] at h4 ⊢; exact hnc2 k' h4 (by omega)
      ·exact hnc i' k' (by omega) h4 h5
    ·rw [if_neg (fun h => by obtain ⟨i', k', h3, h4, h5⟩ := crsL_iff.1 h; exact hnc i' k' (by omega) h3 h4 h5)]
 | true =>
   (simp only [pc6, rs6, oU, oC]; refine ev ?_; try exact ⟨⟩)
   have hsg : segs c true = c.length := rfl
   unfold chkN
   rw [hsg]
   simp only [if_true]
   refine ⟨fun h => by rw [if_pos (by omega)], fun h => ⟨fun h2 => by rw [if_neg (by omega), if_pos (by omega)], fun h2 => ?_⟩⟩
   rw [if_neg (by omega), if_neg (by omega)]
   refine loopF_of (fun E => ∃ i : Nat, i ≤ c.length ∧ (∀ j, j < i → gt c ((j + c.length - 1) % c.length) ≠ gt c j) ∧ E = [(0, chn c), (1, .bool true), (6, .int .i64 i)])
    (fun E => match lk E 6 with | .int _ i => c.length - i.toNat | _ => 0) ⟨0, by omega, fun _ h => absurd h (by omega), rfl⟩ ?_
   rintro _ ⟨i, hi, hno, rfl⟩
   simp only [evX, evY, evZ, forall_const, implies_true, initE, stepF, D.clean, mvF, moF, tkF, shF, ariF, ciF, catF, scF, ebF, eqF, eqOk, eqPr, enF, notF, ngF, cvF, csF, csbF, lenF, lenSF, ixF, iaF, PX.slot, iaAF, faF, ldF, D.mem, stF, bxF, mkSF, boundF, fldF, ixAF, mmF2, D.plain, D.isPure, optAll, D.dull, callVF, splice, D.cells, D.one, sets, resT, D.flat, D.flat0, D.simple, Nat.reduceBNe, Nat.reduceLT, reduceIte, Nat.reduceEqDiff, Nat.reduceAdd, Nat.reduceMul, Nat.reduceSub, Nat.reduceLeDiff, Int.reduceToNat, Int.reduceLT, Int.reduceLE, Int.reduceEq, Int.reduceNeg, Int.reduceSub, Int.reduceAdd, Int.reduceMul, stG_own, ldC_pts, ldC_pts0]
   refine ⟨fun h1 => ?_, fun h1 => ?_⟩
   ·have hz : Sz 30 (gt c i) := hsz _ (List.mem_of_getElem? (hg i (by omega)))
    refine ⟨⟨by omega, by omega, by rw [pts_len]; omega⟩, _, hg i (by omega), ?_⟩
    refine callF_of (Tryz.lrightP (gt c i) hz) ?_
    simp only [evX, evY, evZ, forall_const, implies_true, initE, stepF, D.clean, mvF, moF, tkF, shF, ariF, ciF, catF, scF, ebF, eqF, eqOk, eqPr, enF, notF, ngF, cvF, csF, csbF, lenF, lenSF, ixF, iaF, PX.slot, iaAF, faF, ldF, D.mem, stF, bxF, mkSF, boundF, fldF, ixAF, mmF2, D.plain, D.isPure, optAll, D.dull, callVF, splice, D.cells, D.one, sets, resT, D.flat, D.flat0, D.simple, Nat.reduceBNe, Nat.reduceLT, reduceIte, Nat.reduceEqDiff, Nat.reduceAdd, Nat.reduceMul, Nat.reduceSub, Nat.reduceLeDiff, Int.reduceToNat, Int.reduceLT, Int.reduceLE, Int.reduceEq, Int.reduceNeg, Int.reduceSub, Int.reduceAdd, Int.reduceMul, stG_own, ldC_pts, ldC_pts0]
    have hpi : ∀ j, 0 < j → j < c.length → (j + c.length - 1) % c.length = j - 1 := fun j h0 hj => by
     rw [show j + c.length - 1 = (j - 1) + c.length by omega, Nat.add_mod_right, Nat.mod_eq_of_lt (by omega)]
    have hp0 : (0 + c.length - 1) % c.length = c.length - 1 := by
     rw [show 0 + c.length - 1 = c.length - 1 by omega, Nat.mod_eq_of_lt (by omega)]
    have e1 : ((i : Int) - 1).toNat = i - 1 := by omega
    have e2 : ((c.length : Int) - 1).toNat = c.length - 1 := by omega
    rw [e1, e2]
    have hnext : (∀ (x y : Pt), True) → (gt c ((i + c.length - 1) % c.length) ≠ gt c i) → ∃ i_1 : Nat, i_1 ≤ c.length ∧ (∀ (j : Nat), j < i_1 → ¬gt c ((j + c.length - 1) % c.length) = gt c j) ∧ ((6 : Nat), D.int IntKind.i64 ((i : Int) + 1)) = (6, D.int IntKind.i64 (i_1 : Int)) := fun _ h => ⟨i + 1, by omega, fun j hj => by
     by_cases e : j = i
     ·rw [e]; exact h
     ·exact hno j (by omega), by simp⟩
    refine ⟨fun h3 => ⟨⟨by omega, by omega, by rw [pts_len]; omega⟩, _, hg i (by omega), ⟨by omega, by omega⟩, ⟨by omega, by omega, by rw [pts_len]; omega⟩, gt c (i - 1), hg _ (by omega), eqOk_pt _ _, fun h4 => ⟨fun h5 => absurd h5 (by omega), fun _ => ⟨⟨by omega, by omega⟩, hnext (fun _ _ => trivial) ?_, by omega⟩⟩, fun h4 => ?_⟩,
     fun h3 => ⟨fun h4 => ⟨⟨by omega, by rw [pts_len]; omega⟩, gt c 0, hg 0 (by omega), ⟨by omega, by omega⟩, ⟨by omega, by omega, by rw [pts_len]; omega⟩, gt c (c.length - 1), hg _ (by omega), eqOk_pt _ _, fun h5 => ?_, fun h5 => ⟨⟨by omega, by omega⟩, hnext (fun _ _ => trivial) ?_, by omega⟩⟩, fun h4 => absurd (by omega) h4⟩⟩
    ·intro h6
     rw [hpi i (by omega) (by omega)] at h6
     exact h4 ((eq_pt _ _).2 h6.symm)
    ·have h5 := (eq_pt _ _).1 h4
     rw [if_pos (dbl_iff.2 ⟨i - 1, by omega, by rw [show (i - 1 + 1) % c.length = i by rw [Nat.mod_eq_of_lt (by omega)]; omega]; exact h5.symm⟩)]
    ·have h6 := (eq_pt _ _).1 h5
     rw [if_pos (dbl_iff.2 ⟨c.length - 1, by omega, by rw [show (c.length - 1 + 1) % c.length = 0 by rw [show c.length - 1 + 1 = c.length by omega, Nat.mod_self]]; exact h6.symm⟩)]
    ·intro h6
     obtain rfl : i = 0 := by omega
     rw [hp0] at h6
     exact h5 ((eq_pt _ _).2 h6.symm)
   ·have e : i = c.length := by omega
    subst e
    have hnd : ¬dbl c c.length = true := fun h3 => by
     obtain ⟨j, h4, h5⟩ := dbl_iff.1 h3
     obtain ⟨r1, r2⟩ := ringnext h4
     exact hno _ r1 (by rw [r2]; exact h5)
    rw [if_neg hnd]
    have hce : crs c c.length = crsL c c.length := crs_eq (c := c) (ring := true) (by simp; omega) (by simpa [segs] using hnd)
    rw [hce]
    refine ⟨⟨by omega, by omega⟩, ?_⟩
    refine loopF_of (fun E => ∃ i : Nat, i ≤ c.length ∧ (∀ i' k', i' < i → i' < k' → k' < c.length → ¬crossL (gt c) c.length c.length i' k') ∧ E = [(0, chn c), (1, .bool true), (7, .int .i64 c.length), (8, .int .i64 i)])
     (fun E => match lk E 8 with | .int _ i => c.length - i.toNat | _ => 0) ⟨0, by omega, fun _ _ h => absurd h (by omega), rfl⟩ ?_
    rintro _ ⟨i, hi', hnc, rfl⟩
    (refine ev ?_; try exact ⟨⟩)
    refine ⟨fun h1 => ?_, fun h1 => ?_⟩
    ·refine ⟨⟨by omega, by omega⟩, ?_⟩
     refine loopF_of (fun E => ∃ k : Nat, i < k ∧ k ≤ c.length ∧ (∀ k', i < k' → k' < k → ¬crossL (gt c) c.length c.length i k') ∧ E = [(0, chn c), (1, .bool true), (7, .int .i64 c.length), (8, .int .i64 i), (9, .int .i64 k)])
      (fun E => match lk E 9 with | .int _ i => c.length - i.toNat | _ => 0) ⟨i + 1, by omega, by omega, fun _ h2 h3 => absurd h3 (by omega), rfl⟩ ?_
     rintro _ ⟨k, hik, hk, hnc2, rfl⟩
     simp only [evX, evY, evZ, forall_const, implies_true, initE, stepF, D.clean, mvF, moF, tkF, shF, ariF, ciF, catF, scF, ebF, eqF, eqOk, eqPr, enF, notF, ngF, cvF, csF, csbF, lenF, lenSF, ixF, iaF, PX.slot, iaAF, faF, ldF, D.mem, stF, bxF, mkSF, boundF, fldF, ixAF, mmF2, D.plain, D.isPure, optAll, D.dull, callVF, splice, D.cells, D.one, sets, resT, D.flat, D.flat0, D.simple, Nat.reduceBNe, Nat.reduceLT, reduceIte, Nat.reduceEqDiff, Nat.reduceAdd, Nat.reduceMul, Nat.reduceSub, Nat.reduceLeDiff, Int.reduceToNat, Int.reduceLT, Int.reduceLE, Int.reduceEq, Int.reduceNeg, Int.reduceSub, Int.reduceAdd, Int.reduceMul, stG_own, ldC_pts]
     refine ⟨fun h2 => ?_, fun h2 => ?_⟩
     ·have m1 : (k + 1) % c.length < c.length := Nat.mod_lt _ (by omega)
      have e2 : ((k : Int) + 1).tmod (c.length : Int) = (((k + 1) % c.length : Nat) : Int) := rfl
      have e3 : ((i : Int) + 1).toNat = i + 1 := by omega
      have e4 : (i + 1) % c.length = i + 1 := Nat.mod_eq_of_lt (by omega)
      have hz : ∀ j, j < c.length → Sz 30 (gt c j) := fun j hj => hsz _ (List.mem_of_getElem? (hg j hj))
      have cm := Tryz.lmeet (gt c i) (gt c (i + 1)) (gt c k) (gt c ((k + 1) % c.length)) (hz _ (by omega)) (hz _ (by omega)) (hz _ (by omega)) (hz _ m1)
      obtain ⟨x, y, hlm⟩ := lmD_num (gt c i) (gt c (i + 1)) (gt c k) (gt c ((k + 1) % c.length))
      rw [hlm] at cm
      have hcr : crossL (gt c) c.length c.length i k ↔ (if k = i + 1 ∨ (i = 0 ∧ k = c.length - 1) then 1 else 0) < (meetL (gt c i) (gt c (i + 1)) (gt c k) (gt c ((k + 1) % c.length))).num := by
       unfold crossL
       rw [e4]
       have : next c.length c.length i k ↔ k = i + 1 ∨ (i = 0 ∧ k = c.length - 1) := by unfold next; simp
       simp only [this]
      generalize (meetL (gt c i) (gt c (i + 1)) (gt c k) (gt c ((k + 1) % c.length))).num = nm at *
      rw [e2, e3]
      simp only [Int.toNat_natCast]
      refine ⟨⟨by omega, by omega, by rw [pts_len]; omega⟩, _, hg i (by omega), ⟨by omega, by omega⟩, ⟨by omega, by omega, by rw [pts_len]; omega⟩, _, hg (i + 1) (by omega), ⟨by omega, by omega, by rw [pts_len]; omega⟩, _, hg k (by omega), ⟨by omega, by omega⟩, by omega, ⟨by omega, by omega, by rw [pts_len]; omega⟩, _, hg _ m1, ?_⟩
      refine callF_of cm ?_
      (refine ev ?_; try exact ⟨⟩)
      have yes : crossL (gt c) c.length c.length i k → (26 : Int) = if crsL c c.length = true then 26 else 0 := fun hc => by rw [if_pos (crsL_iff.2 ⟨i, k, hik, by omega, hc⟩)]
      have no : ¬crossL (gt c) c.length c.length i k → ∃ k_1, i < k_1 ∧ k_1 ≤ c.length ∧ (∀ (k' : Nat), i < k' → k' < k_1 → ¬crossL (gt c) c.length c.length i k') ∧ ((9 : Nat), D.int IntKind.i64 ((k : Int) + 1)) = (9, D.int IntKind.i64 (k_1 : Int)) := fun hc => ⟨k + 1, by omega, by omega, fun k' h3 h4 => by
       by_cases e : k' = k
       ·rw [e]; exact hc
       ·exact hnc2 k' h3 (by omega), by simp⟩
      refine ⟨⟨by omega, by omega⟩, fun h5 => ⟨fun h7 => ⟨⟨by omega, by omega⟩, fun h8 => ⟨fun h6 => yes (hcr.2 (by rw [if_pos (show k = i + 1 ∨ (i = 0 ∧ k = c.length - 1) by omega)]; omega)), fun h6 => ⟨⟨by omega, by omega⟩, no (fun hc => by have := hcr.1 hc; rw [if_pos (show k = i + 1 ∨ (i = 0 ∧ k = c.length - 1) by omega)] at this; omega), by omega⟩⟩, fun h8 => ⟨fun h6 => yes (hcr.2 (by rw [if_neg (show ¬(k = i + 1 ∨ (i = 0 ∧ k = c.length - 1)) by omega)]; omega)), fun h6 => ⟨⟨by omega, by omega⟩, no (fun hc => by have := hcr.1 hc; rw [if_neg (show ¬(k = i + 1 ∨ (i = 0 ∧ k = c.length - 1)) by omega)] at this; omega), by omega⟩⟩⟩, fun h7 => ⟨fun h6 => yes (hcr.2 (by rw [if_neg (show ¬(k = i + 1 ∨ (i = 0 ∧ k = c.length - 1)) by omega)]; omega)), fun h6 => ⟨⟨by omega, by omega⟩, no (fun hc => by have := hcr.1 hc; rw [if_neg (show ¬(k = i + 1 ∨ (i = 0 ∧ k = c.length - 1)) by omega)] at this; omega), by omega⟩⟩⟩, fun h5 => ⟨fun h6 => yes (hcr.2 (by rw [if_pos (show k = i + 1 ∨ (i = 0 ∧ k = c.length - 1) by omega)]; omega)), fun h6 => ⟨⟨by omega, by omega⟩, no (fun hc => by have := hcr.1 hc; rw [if_pos (show k = i + 1 ∨ (i = 0 ∧ k = c.length - 1) by omega)] at this; omega), by omega⟩⟩⟩
     ·refine ⟨⟨by omega, by omega⟩, ⟨i + 1, by omega, fun i' k' h3 h4 h5 => ?_, by simp⟩, by omega⟩
      by_cases e : i' = i
      ·rw [e] at h4 ⊢; exact hnc2 k' h4 (by omega)
      ·exact hnc i' k' (by omega) h4 h5
    ·rw [if_neg (fun h => by obtain ⟨i', k', h3, h4, h5⟩ := crsL_iff.1 h; exact hnc i' k' (by omega) h3 h4 h5)]
end Go.Proofs

/-
 POLYLINE: Points. Own work.
-/
namespace Go.Proofs
open Go Go.Pi Go.RowKit Go.Ar Go.Ge

abbrev Q8 := Int × Int
def q8D (p : Q8) : List D := [.int .i8 p.1, .int .i8 p.2]
theorem q8_len (x : Q8) : (q8D x).length = 2 := rfl
abbrev q8s (l : List Q8) : List D := rows q8D l
def okQ (p : Q8) : Prop := (-128 ≤ p.1 ∧ p.1 ≤ 127) ∧ -128 ≤ p.2 ∧ p.2 ≤ 127
def ptO (den : Nat) (p : Q8) : Pt := (mkRat (p.1.tmod 10) den, mkRat (p.2.tmod 10) den)
/-- at most 8 points -/
def ptsO (l : List Q8) (den : Nat) : List Pt := (l.take 8).map (ptO den)
theorem dd_len1 {n : Nat} (h : n < 10) : (dd n).length ≤ 1 := dd_len_le (by decide) (by omega)
theorem tmod10 (x : Int) : -9 ≤ x.tmod 10 ∧ x.tmod 10 ≤ 9 := by
 rcases Int.lt_or_le x 0 with h | h
 ·have e : x = -((-x).toNat : Int) := by omega
  rw [e, Int.neg_tmod, show (10 : Int) = ((10 : Nat) : Int) from rfl, ← Int.ofNat_tmod]
  omega
 ·have e : x = (x.toNat : Int) := by omega
  rw [e, show (10 : Int) = ((10 : Nat) : Int) from rfl, ← Int.ofNat_tmod]
  omega
theorem rd_tenth (x : Int) {den : Nat} (hd : den = 1 ∨ den = 2) : rd (mkRat (x.tmod 10) den) ≤ 1 := by
 have h := tmod10 x
 refine rd_mk (by omega) ?_ (dd_len1 (by omega))
 show (dd _).length ≤ 1
 exact dd_len1 (by omega)
theorem sz_ptO {den : Nat} (hd : den = 1 ∨ den = 2) (p : Q8) : Sz 1 (ptO den p) := ⟨rd_tenth _ hd, rd_tenth _ hd⟩
theorem sz_ptsO {den : Nat} (hd : den = 1 ∨ den = 2) (l : List Q8) : ∀ p ∈ ptsO l den, Sz 1 p := fun p hp => by
 obtain ⟨q, _, rfl⟩ := List.mem_map.1 hp
 exact sz_ptO hd q
theorem ptsO_len (l : List Q8) (den : Nat) : (ptsO l den).length = min 8 l.length := by simp [ptsO]
set_option maxRecDepth 100000 in
set_option maxHeartbeats 4000000 in
theorem Tryz.lpointsO (l : List Q8) (halves : Bool) (hl : l.length ≤ 1048576) (hq : ∀ p ∈ l, okQ p) : Con Tryz.prog Tryz.L 5 [.sl l.length (q8s l), .bool halves] (.own true 36 (ptsO l (if halves then 2 else 1)).length (pts (ptsO l (if halves then 2 else 1)))) := by
 refine rule5 Tryz.hL rfl rfl rfl ?_
 cases halves
 ·(simp only [pc5, rs5, oU, oC]; refine ev ?_; try exact ⟨⟩)
  refine loopF_of (fun E => ∃ k : Nat, k ≤ min 8 l.length ∧ E = [(0, .sl l.length (q8s l)), (5, .own true 36 k (pts ((l.take k).map (ptO 1)))), (6, .int .i64 1), (7, .int .i64 k)])
   (fun E => match lk E 7 with | .int _ i => 8 - i.toNat | _ => 0) ⟨0, by omega, rfl⟩ ?_
  rintro _ ⟨k, hk, rfl⟩
  (refine ev ?_; try exact ⟨⟩)
  have hend : ¬((k : Int) < l.length ∧ (k : Int) < 8) → D.own true 36 k (pts ((l.take k).map (ptO 1))) = D.own true 36 (ptsO l 1).length (pts (ptsO l 1)) := fun h => by
   have e : k = min 8 l.length := by omega
   have e2 : l.take k = l.take 8 := by rw [e]; exact (List.take_eq_take_min ..).symm
   rw [ptsO_len, ← e]; unfold ptsO; rw [e2]
  refine ⟨fun h1 => ⟨fun h2 => ?_, fun h2 => hend (fun h => h2 h.2)⟩, fun h1 => hend (fun h => h1 h.1)⟩
  have hx : l[k]? = some (l[k]'(by omega)) := List.getElem?_eq_getElem (by omega)
  generalize l[k]'(by omega) = x at hx
  obtain ⟨r, hr⟩ := rows_at q8_len hx
  have hk8 := hq x (List.mem_of_getElem? hx)
  obtain ⟨⟨x1, x2⟩, x3, x4⟩ := hk8
  have t1 := tmod10 x.1
  have t2 := tmod10 x.2
  have hlen : (q8s l).length = l.length * 2 := rows_length q8_len l
  have hsn : pts ((l.take k).map (ptO 1)) ++ [.str (rt (mkRat (x.1.tmod 10) 1)), .str (rt (mkRat (x.2.tmod 10) 1))] = pts ((l.take (k + 1)).map (ptO 1)) := by
   rw [List.take_add_one, hx]
   show _ = pts (List.map (ptO 1) (l.take k ++ [x]))
   rw [List.map_append]
   exact (pts_snoc ((l.take k).map (ptO 1)) (ptO 1 x)).symm
  rw [hr]
  simp only [q8D, evX, evY, evZ, forall_const, implies_true, initE, stepF, D.clean, mvF, moF, tkF, shF, ariF, ciF, catF, scF, ebF, eqF, eqOk, eqPr, enF, notF, ngF, cvF, csF, csbF, lenF, lenSF, ixF, iaF, PX.slot, iaAF, faF, ldF, D.mem, stF, bxF, mkSF, boundF, fldF, ixAF, mmF2, D.plain, D.isPure, optAll, D.dull, callVF, splice, D.cells, D.one, sets, resT, D.flat, D.flat0, D.simple, Nat.reduceBNe, Nat.reduceLT, reduceIte, Nat.reduceEqDiff, Nat.reduceAdd, Nat.reduceMul, Nat.reduceSub, Nat.reduceLeDiff, Int.reduceToNat, Int.reduceLT, Int.reduceLE, Int.reduceEq, Int.reduceNeg, Int.reduceSub, Int.reduceAdd, Int.reduceMul, stG_own]
  refine ⟨⟨by omega, by omega, by omega⟩, by decide, ⟨by omega, by omega⟩, ?_⟩
  refine callF_of (Tryz.rof (x.1.tmod 10) 1 (by decide) (inR_i64.2 (by omega)) (inR_i64.2 (by omega))) ?_
  (refine ev ?_; try exact ⟨⟩)
  rw [hr]
  simp only [q8D, evX, evY, evZ, forall_const, implies_true, initE, stepF, D.clean, mvF, moF, tkF, shF, ariF, ciF, catF, scF, ebF, eqF, eqOk, eqPr, enF, notF, ngF, cvF, csF, csbF, lenF, lenSF, ixF, iaF, PX.slot, iaAF, faF, ldF, D.mem, stF, bxF, mkSF, boundF, fldF, ixAF, mmF2, D.plain, D.isPure, optAll, D.dull, callVF, splice, D.cells, D.one, sets, resT, D.flat, D.flat0, D.simple, Nat.reduceBNe, Nat.reduceLT, reduceIte, Nat.reduceEqDiff, Nat.reduceAdd, Nat.reduceMul, Nat.reduceSub, Nat.reduceLeDiff, Int.reduceToNat, Int.reduceLT, Int.reduceLE, Int.reduceEq, Int.reduceNeg, Int.reduceSub, Int.reduceAdd, Int.reduceMul, stG_own]
  refine ⟨⟨by omega, by omega, by omega⟩, by decide, ⟨by omega, by omega⟩, ?_⟩
  refine callF_of (Tryz.rof (x.2.tmod 10) 1 (by decide) (inR_i64.2 (by omega)) (inR_i64.2 (by omega))) ?_
  (refine ev ?_; try exact ⟨⟩)
  rw [hsn]
  exact ⟨by omega, by omega, ⟨by omega, by omega⟩, ⟨k + 1, by omega, rfl, by simp⟩, by omega⟩
 ·(simp only [pc5, rs5, oU, oC]; refine ev ?_; try exact ⟨⟩)
  refine loopF_of (fun E => ∃ k : Nat, k ≤ min 8 l.length ∧ E = [(0, .sl l.length (q8s l)), (5, .own true 36 k (pts ((l.take k).map (ptO 2)))), (6, .int .i64 2), (7, .int .i64 k)])
   (fun E => match lk E 7 with | .int _ i => 8 - i.toNat | _ => 0) ⟨0, by omega, rfl⟩ ?_
  rintro _ ⟨k, hk, rfl⟩
  (refine ev ?_; try exact ⟨⟩)
  have hend : ¬((k : Int) < l.length ∧ (k : Int) < 8) → D.own true 36 k (pts ((l.take k).map (ptO 2))) = D.own true 36 (ptsO l 2).length (pts (ptsO l 2)) := fun h => by
   have e : k = min 8 l.length := by omega
   have e2 : l.take k = l.take 8 := by rw [e]; exact (List.take_eq_take_min ..).symm
   rw [ptsO_len, ← e]; unfold ptsO; rw [e2]
  refine ⟨fun h1 => ⟨fun h2 => ?_, fun h2 => hend (fun h => h2 h.2)⟩, fun h1 => hend (fun h => h1 h.1)⟩
  have hx : l[k]? = some (l[k]'(by omega)) := List.getElem?_eq_getElem (by omega)
  generalize l[k]'(by omega) = x at hx
  obtain ⟨r, hr⟩ := rows_at q8_len hx
  have hk8 := hq x (List.mem_of_getElem? hx)
  obtain ⟨⟨x1, x2⟩, x3, x4⟩ := hk8
  have t1 := tmod10 x.1
  have t2 := tmod10 x.2
  have hlen : (q8s l).length = l.length * 2 := rows_length q8_len l
  have hsn : pts ((l.take k).map (ptO 2)) ++ [.str (rt (mkRat (x.1.tmod 10) 2)), .str (rt (mkRat (x.2.tmod 10) 2))] = pts ((l.take (k + 1)).map (ptO 2)) := by
   rw [List.take_add_one, hx]
   show _ = pts (List.map (ptO 2) (l.take k ++ [x]))
   rw [List.map_append]
   exact (pts_snoc ((l.take k).map (ptO 2)) (ptO 2 x)).symm
  rw [hr]
  simp only [q8D, evX, evY, evZ, forall_const, implies_true, initE, stepF, D.clean, mvF, moF, tkF, shF, ariF, ciF, catF, scF, ebF, eqF, eqOk, eqPr, enF, notF, ngF, cvF, csF, csbF, lenF, lenSF, ixF, iaF, PX.slot, iaAF, faF, ldF, D.mem, stF, bxF, mkSF, boundF, fldF, ixAF, mmF2, D.plain, D.isPure, optAll, D.dull, callVF, splice, D.cells, D.one, sets, resT, D.flat, D.flat0, D.simple, Nat.reduceBNe, Nat.reduceLT, reduceIte, Nat.reduceEqDiff, Nat.reduceAdd, Nat.reduceMul, Nat.reduceSub, Nat.reduceLeDiff, Int.reduceToNat, Int.reduceLT, Int.reduceLE, Int.reduceEq, Int.reduceNeg, Int.reduceSub, Int.reduceAdd, Int.reduceMul, stG_own]
  refine ⟨⟨by omega, by omega, by omega⟩, by decide, ⟨by omega, by omega⟩, ?_⟩
  refine callF_of (Tryz.rof (x.1.tmod 10) 2 (by decide) (inR_i64.2 (by omega)) (inR_i64.2 (by omega))) ?_
  (refine ev ?_; try exact ⟨⟩)
  rw [hr]
  simp only [q8D, evX, evY, evZ, forall_const, implies_true, initE, stepF, D.clean, mvF, moF, tkF, shF, ariF, ciF, catF, scF, ebF, eqF, eqOk, eqPr, enF, notF, ngF, cvF, csF, csbF, lenF, lenSF, ixF, iaF, PX.slot, iaAF, faF, ldF, D.mem, stF, bxF, mkSF, boundF, fldF, ixAF, mmF2, D.plain, D.isPure, optAll, D.dull, callVF, splice, D.cells, D.one, sets, resT, D.flat, D.flat0, D.simple, Nat.reduceBNe, Nat.reduceLT, reduceIte, Nat.reduceEqDiff, Nat.reduceAdd, Nat.reduceMul, Nat.reduceSub, Nat.reduceLeDiff, Int.reduceToNat, Int.reduceLT, Int.reduceLE, Int.reduceEq, Int.reduceNeg, Int.reduceSub, Int.reduceAdd, Int.reduceMul, stG_own]
  refine ⟨⟨by omega, by omega, by omega⟩, by decide, ⟨by omega, by omega⟩, ?_⟩
  refine callF_of (Tryz.rof (x.2.tmod 10) 2 (by decide) (inR_i64.2 (by omega)) (inR_i64.2 (by omega))) ?_
  (refine ev ?_; try exact ⟨⟩)
  rw [hsn]
  exact ⟨by omega, by omega, ⟨by omega, by omega⟩, ⟨k + 1, by omega, rfl, by simp⟩, by omega⟩
theorem Tryz.lpoints (l : List Q8) (halves : Bool) (hl : l.length ≤ 1048576) (hq : ∀ p ∈ l, okQ p) : Con Tryz.prog Tryz.L 5 [.sl l.length (q8s l), .bool halves] (chn (ptsO l (if halves then 2 else 1))) := Con.flat (Tryz.lpointsO l halves hl hq)
end Go.Proofs

/-
 POLYLINE: Crossings. Own work.
-/
namespace Go.Proofs
open Go Go.Pi Go.RowKit Go.Ar Go.Ge

def crD (x : Cr) : List D := [.int .i64 x.1, .int .i64 x.2.1, .str (rt x.2.2.1), .str (rt x.2.2.2)]
theorem crD_len (x : Cr) : (crD x).length = 4 := rfl
abbrev crl (l : List Cr) : List D := rows crD l
theorem crl_len (l : List Cr) : (crl l).length = l.length * 4 := rows_length crD_len l
theorem crl_snoc (l : List Cr) (x : Cr) : crl (l ++ [x]) = crl l ++ crD x := rows_snoc
/-- what Crossings returns -/
def crR (M : Nat → Nat → Mt) (na nb : Nat) : D := if ovC M na nb = true then .tup [.sl 0 [], .int .i64 7] else .tup [.sl (outC M nb na).length (crl (outC M nb na)), .int .i64 0]
theorem crR_al (M : Nat → Nat → Mt) (na nb : Nat) : aliasOf (crR M na nb) = none := by unfold crR; split <;> rfl
theorem Tryz.pcr1 (x : Cr) (h : Sz 200 x.2.2) : Con Tryz.prog Tryz.L 28 [.agg (crD x)] (.bool false) := by
 refine rule28 Tryz.hL rfl rfl rfl ?_
 simp only [crD, pc28, rs28, oU, oC, evX, evY, evZ, forall_const, implies_true, initE, stepF, D.clean, mvF, moF, tkF, shF, ariF, ciF, catF, scF, ebF, eqF, eqOk, eqPr, enF, notF, ngF, cvF, csF, csbF, lenF, lenSF, ixF, iaF, PX.slot, iaAF, faF, ldF, D.mem, stF, bxF, mkSF, boundF, fldF, ixAF, mmF2, D.plain, D.isPure, optAll, D.dull, callVF, splice, D.cells, D.one, sets, resT, D.flat, D.flat0, D.simple, Nat.reduceBNe, Nat.reduceLT, reduceIte, Nat.reduceEqDiff, Nat.reduceAdd, Nat.reduceMul, Nat.reduceSub, Nat.reduceLeDiff, Int.reduceToNat, Int.reduceLT, Int.reduceLE, Int.reduceEq, Int.reduceNeg, Int.reduceSub, Int.reduceAdd, Int.reduceMul, stG_own]
 refine callF_of (Tryz.ppoint x.2.2 h) ?_
 (refine ev ?_; try exact ⟨⟩)
theorem ldC_crl {l : List Cr} {k t : Nat} {N : EP} {E : Env} : ldC true 4 (List.take 4 (List.drop (k * 4) (crl l))) t N E = (∃ x, l[k]? = some x ∧ N (st1 E t (.agg (crD x)))) := by
 unfold ldC
 cases h : l[k]? with
 | none =>
   have hk : l.length ≤ k := by simpa using h
   have e : List.take 4 (List.drop (k * 4) (crl l)) = [] := by rw [List.drop_eq_nil_of_le (by rw [rows_length crD_len]; omega)]; rfl
   rw [e]; simp [ofCells]
 | some x =>
   obtain ⟨r, e⟩ := rows_at crD_len h
   have e2 : List.take 4 (List.drop (k * 4) (crl l)) = crD x := by rw [e]; rfl
   rw [e2]
   simp [ofCells, crD]
set_option maxHeartbeats 4000000 in
theorem Tryz.pcrIdx (l : List Cr) (hl : l.length ≤ 1000) (h : ∀ x ∈ l, Sz 200 x.2.2) : Con Tryz.prog Tryz.L 51 [.sl l.length (crl l), .clo 28 []] (.int .i64 (-1)) := by
 refine rule51 Tryz.hL rfl rfl rfl ?_
 (simp only [pc51, rs51, oU, oC]; refine ev ?_; try exact ⟨⟩)
 refine loopF_of (fun E => ∃ k : Nat, k ≤ l.length ∧ E = [(0, .sl l.length (crl l)), (1, .clo 28 []), (7, .int .i64 l.length), (8, .int .i64 k)])
  (fun E => match lk E 8 with | .int _ i => l.length - i.toNat | _ => 0) ⟨0, by omega, rfl⟩ ?_
 rintro _ ⟨k, hk, rfl⟩
 simp only [evX, evY, evZ, forall_const, implies_true, initE, stepF, D.clean, mvF, moF, tkF, shF, ariF, ciF, catF, scF, ebF, eqF, eqOk, eqPr, enF, notF, ngF, cvF, csF, csbF, lenF, lenSF, ixF, iaF, PX.slot, iaAF, faF, ldF, D.mem, stF, bxF, mkSF, boundF, fldF, ixAF, mmF2, D.plain, D.isPure, optAll, D.dull, callVF, splice, D.cells, D.one, sets, resT, D.flat, D.flat0, D.simple, Nat.reduceBNe, Nat.reduceLT, reduceIte, Nat.reduceEqDiff, Nat.reduceAdd, Nat.reduceMul, Nat.reduceSub, Nat.reduceLeDiff, Int.reduceToNat, Int.reduceLT, Int.reduceLE, Int.reduceEq, Int.reduceNeg, Int.reduceSub, Int.reduceAdd, Int.reduceMul, stG_own, ldC_crl]
 ·intro h1
  have hx : l[k]? = some (l[k]'(by omega)) := List.getElem?_eq_getElem (by omega)
  generalize l[k]'(by omega) = x at hx
  refine ⟨⟨by omega, by omega, by rw [crl_len]; omega⟩, x, hx, ?_⟩
  have hc := Tryz.pcr1 x (h x (List.mem_of_getElem? hx))
  simp only [crD, evX, evY, evZ, forall_const, implies_true, initE, stepF, D.clean, mvF, moF, tkF, shF, ariF, ciF, catF, scF, ebF, eqF, eqOk, eqPr, enF, notF, ngF, cvF, csF, csbF, lenF, lenSF, ixF, iaF, PX.slot, iaAF, faF, ldF, D.mem, stF, bxF, mkSF, boundF, fldF, ixAF, mmF2, D.plain, D.isPure, optAll, D.dull, callVF, splice, D.cells, D.one, sets, resT, D.flat, D.flat0, D.simple, Nat.reduceBNe, Nat.reduceLT, reduceIte, Nat.reduceEqDiff, Nat.reduceAdd, Nat.reduceMul, Nat.reduceSub, Nat.reduceLeDiff, Int.reduceToNat, Int.reduceLT, Int.reduceLE, Int.reduceEq, Int.reduceNeg, Int.reduceSub, Int.reduceAdd, Int.reduceMul, stG_own] at hc ⊢
  refine callF_of hc ?_
  (refine ev ?_; try exact ⟨⟩)
  exact ⟨⟨by omega, by omega⟩, ⟨k + 1, by omega, by simp⟩, by omega⟩
theorem Tryz.pcrHas (l : List Cr) (hl : l.length ≤ 1000) (h : ∀ x ∈ l, Sz 200 x.2.2) : Con Tryz.prog Tryz.L 27 [.sl l.length (crl l), .clo 28 []] (.bool false) := by
 refine rule27 Tryz.hL rfl rfl rfl ?_
 (simp only [pc27, rs27, oU, oC]; refine ev ?_; try exact ⟨⟩)
 refine callF_of (Tryz.pcrIdx l hl h) ?_
 (refine ev ?_; try exact ⟨⟩)
 try rfl
/-- the place at which small segments meet is small -/
theorem sz_meetP {a b c d p : Pt} (ha : Sz 2 a) (hb : Sz 2 b) (hc : Sz 2 c) (hd : Sz 2 d) (h : meetP a b c d = .touch p) : Sz 100 p := by
 unfold meetP at h
 split at h
 ·have hm : ∀ {x y : Pt}, Sz 2 x → Sz 2 y → Sz 2 (mn x y) ∧ Sz 2 (mx x y) := fun hx hy => by
   unfold mn mx; split <;> exact ⟨by assumption, by assumption⟩
  unfold colP at h
  simp only at h
  split at h
  ·cases h
   exact (hm (hm ha hb).1 (hm hc hd).1).2.more (by decide)
  ·split at h <;> cases h
 ·split at h
  ·cases h
  ·cases h
   have r1 : rd (ar a b c) ≤ 21 := by
    unfold ar
    have s1 := rd_sub b.1 a.1; have s2 := rd_sub c.2 a.2; have s3 := rd_sub b.2 a.2; have s4 := rd_sub c.1 a.1
    have m1 := rd_mul (b.1 - a.1) (c.2 - a.2); have m2 := rd_mul (b.2 - a.2) (c.1 - a.1)
    have := rd_sub ((b.1 - a.1) * (c.2 - a.2)) ((b.2 - a.2) * (c.1 - a.1))
    have := ha.1; have := ha.2; have := hb.1; have := hb.2; have := hc.1; have := hc.2
    omega
   have r2 : rd (ar a b d) ≤ 21 := by
    unfold ar
    have s1 := rd_sub b.1 a.1; have s2 := rd_sub d.2 a.2; have s3 := rd_sub b.2 a.2; have s4 := rd_sub d.1 a.1
    have m1 := rd_mul (b.1 - a.1) (d.2 - a.2); have m2 := rd_mul (b.2 - a.2) (d.1 - a.1)
    have := rd_sub ((b.1 - a.1) * (d.2 - a.2)) ((b.2 - a.2) * (d.1 - a.1))
    have := ha.1; have := ha.2; have := hb.1; have := hb.2; have := hd.1; have := hd.2
    omega
   have r3 := rd_sub (ar a b c) (ar a b d)
   have r4 := rd_div (ar a b c) (ar a b c - ar a b d)
   have hc1 := hc.1; have hc2 := hc.2; have hd1 := hd.1; have hd2 := hd.2
   have r5 := rd_sub d.1 c.1
   have r6 := rd_sub d.2 c.2
   have r7 := rd_mul (ar a b c / (ar a b c - ar a b d)) (d.1 - c.1)
   have r8 := rd_mul (ar a b c / (ar a b c - ar a b d)) (d.2 - c.2)
   have r9 := rd_add c.1 (ar a b c / (ar a b c - ar a b d) * (d.1 - c.1))
   have r10 := rd_add c.2 (ar a b c / (ar a b c - ar a b d) * (d.2 - c.2))
   exact ⟨show rd (c.1 + ar a b c / (ar a b c - ar a b d) * (d.1 - c.1)) ≤ 100 by omega, show rd (c.2 + ar a b c / (ar a b c - ar a b d) * (d.2 - c.2)) ≤ 100 by omega⟩
theorem gt_sz {c : List Pt} {k : Nat} (h : ∀ p ∈ c, Sz k p) {j : Nat} (hj : j < c.length) : Sz k (gt c j) :=
 h _ (List.mem_of_getElem? (show c[j]? = some (gt c j) by rw [List.getElem?_eq_getElem hj]; simp [gt, List.getD_eq_getElem?_getD, hj]))
set_option maxRecDepth 100000 in
set_option maxHeartbeats 8000000 in
theorem Tryz.pcrossings (a b : List Pt) (ha : a.length ≤ 10) (hb : b.length ≤ 10) (hza : ∀ p ∈ a, Sz 2 p) (hzb : ∀ p ∈ b, Sz 2 p) (hga : good a = true) (hgb : good b = true) : Con Tryz.prog Tryz.L 11 [chn a, chn b] (crR (mP a b) (a.length - 1) (b.length - 1)) := by
 have hca : chkN a false = 0 := by simpa [good] using hga
 have hcb : chkN b false = 0 := by simpa [good] using hgb
 have la := good_len hga
 have lb := good_len hgb
 have ca := Tryz.pcheckL a (by omega) (fun p hp => (hza p hp).more (by decide))
 have cb := Tryz.pcheckL b (by omega) (fun p hp => (hzb p hp).more (by decide))
 rw [hca] at ca
 rw [hcb] at cb
 have hA : ∀ j, j < a.length → a[j]? = some (gt a j) := fun j hj => by
  rw [List.getElem?_eq_getElem hj]; simp [gt, List.getD_eq_getElem?_getD, hj]
 have hB : ∀ j, j < b.length → b[j]? = some (gt b j) := fun j hj => by
  rw [List.getElem?_eq_getElem hj]; simp [gt, List.getD_eq_getElem?_getD, hj]
 obtain ⟨na, hna⟩ : ∃ na, a.length = na + 1 := ⟨a.length - 1, by omega⟩
 obtain ⟨nb, hnb⟩ : ∃ nb, b.length = nb + 1 := ⟨b.length - 1, by omega⟩
 rw [show a.length - 1 = na by omega, show b.length - 1 = nb by omega]
 refine rule11 Tryz.hL (crR_al _ _ _) rfl rfl ?_
 (simp only [pc11, rs11, oU, oC]; refine ev ?_; try exact ⟨⟩)
 refine loopF_of (fun E => ∃ k : Nat, k ≤ 2 ∧ E = [(0, chn a), (1, chn b), (16, .agg [chn a, chn b]), (17, .int .i64 k)])
  (fun E => match lk E 17 with | .int _ i => 2 - i.toNat | _ => 0) ⟨0, by omega, rfl⟩ ?_
 rintro _ ⟨k, hk, rfl⟩
 obtain rfl | rfl | rfl : k = 0 ∨ k = 1 ∨ k = 2 := by omega
 ·(refine ev ?_; try exact ⟨⟩)
  refine ⟨fun _ => ⟨by decide, ?_⟩, fun h => absurd (by decide) h⟩
  refine callF_of ca ?_
  (refine ev ?_; try exact ⟨⟩)
  exact ⟨by decide, ⟨1, by omega, rfl⟩, by decide⟩
 ·(refine ev ?_; try exact ⟨⟩)
  refine ⟨fun _ => ⟨by decide, ?_⟩, fun h => absurd (by decide) h⟩
  refine callF_of cb ?_
  (refine ev ?_; try exact ⟨⟩)
  exact ⟨by decide, ⟨2, by omega, rfl⟩, by decide⟩
 ·(refine ev ?_; try exact ⟨⟩)
  have e1 : (a.length : Int) - 1 = (na : Int) := by omega
  have e2 : (b.length : Int) - 1 = (nb : Int) := by omega
  refine ⟨fun h => absurd h (by decide), fun _ => ⟨⟨by omega, by omega⟩, ?_⟩⟩
  rw [e1]
  refine loopF_of (fun E => ∃ i : Nat, i ≤ na ∧ (∀ i' k', i' < i → k' < nb → (mP a b i' k').isOver = false) ∧ E = [(0, chn a), (1, chn b), (9, .own true 38 (outC (mP a b) nb i).length (crl (outC (mP a b) nb i))), (28, .int .i64 na), (29, .int .i64 i)])
   (fun E => match lk E 29 with | .int _ i => na - i.toNat | _ => 0) ⟨0, by omega, fun _ _ h => absurd h (by omega), rfl⟩ ?_
  rintro _ ⟨i, hi, hno, rfl⟩
  (refine ev ?_; try exact ⟨⟩)
  refine ⟨fun h1 => ⟨⟨by omega, by omega⟩, ?_⟩, fun h1 => ?_⟩
  ·rw [e2]
   refine loopF_of (fun E => ∃ k : Nat, k ≤ nb ∧ (∀ k', k' < k → (mP a b i k').isOver = false) ∧ E = [(0, chn a), (1, chn b), (9, .own true 38 (outC (mP a b) nb i ++ rowC (mP a b) i k).length (crl (outC (mP a b) nb i ++ rowC (mP a b) i k))), (10, .int .i64 i), (28, .int .i64 na), (29, .int .i64 i), (34, .int .i64 nb), (35, .int .i64 k)])
    (fun E => match lk E 35 with | .int _ i => nb - i.toNat | _ => 0) ⟨0, by omega, fun _ h => absurd h (by omega), by rw [show rowC (mP a b) i 0 = [] from rfl, List.append_nil]; rfl⟩ ?_
   rintro _ ⟨k, hk, hno2, rfl⟩
   simp only [evX, evY, evZ, forall_const, implies_true, initE, stepF, D.clean, mvF, moF, tkF, shF, ariF, ciF, catF, scF, ebF, eqF, eqOk, eqPr, enF, notF, ngF, cvF, csF, csbF, lenF, lenSF, ixF, iaF, PX.slot, iaAF, faF, ldF, D.mem, stF, bxF, mkSF, boundF, fldF, ixAF, mmF2, D.plain, D.isPure, optAll, D.dull, callVF, splice, D.cells, D.one, sets, resT, D.flat, D.flat0, D.simple, Nat.reduceBNe, Nat.reduceLT, reduceIte, Nat.reduceEqDiff, Nat.reduceAdd, Nat.reduceMul, Nat.reduceSub, Nat.reduceLeDiff, Int.reduceToNat, Int.reduceLT, Int.reduceLE, Int.reduceEq, Int.reduceNeg, Int.reduceSub, Int.reduceAdd, Int.reduceMul, stG_own, ldC_pts]
   have hol : (outC (mP a b) nb i ++ rowC (mP a b) i k).length ≤ 1000 := by
    rw [List.length_append]
    have h1 := outC_len (mP a b) nb i
    have h2 := rowC_len (mP a b) i k
    have h3 : i * nb ≤ 9 * 9 := Nat.mul_le_mul (by omega) (by omega)
    omega
   refine ⟨fun h2 => ?_, fun h2 => ?_⟩
   ·have e3 : ((i : Int) + 1).toNat = i + 1 := by omega
    have e4 : ((k : Int) + 1).toNat = k + 1 := by omega
    rw [e3, e4]
    refine ⟨⟨by omega, by omega, by rw [pts_len]; omega⟩, _, hA i (by omega), ⟨by omega, by omega⟩, ⟨by omega, by omega, by rw [pts_len]; omega⟩, _, hA (i + 1) (by omega), ⟨by omega, by omega, by rw [pts_len]; omega⟩, _, hB k (by omega), ⟨by omega, by omega⟩, ⟨by omega, by omega, by rw [pts_len]; omega⟩, _, hB (k + 1) (by omega), ?_⟩
    have cm : Con Tryz.prog Tryz.L 26 [ptD (gt a i), ptD (gt a (i + 1)), ptD (gt b k), ptD (gt b (k + 1))] (mtD (mP a b i k)) := Tryz.pmeet (gt a i) (gt a (i + 1)) (gt b k) (gt b (k + 1)) ((gt_sz hza (by omega)).more (by decide)) ((gt_sz hza (by omega)).more (by decide)) ((gt_sz hzb (by omega)).more (by decide)) ((gt_sz hzb (by omega)).more (by decide))
    have hrow : rowC (mP a b) i (k + 1) = rowC (mP a b) i k ++ (mP a b i k).tch i k := rfl
    have hov : (mP a b i k).isOver = true → crR (mP a b) na nb = .tup [.sl 0 [], .int .i64 7] := fun h => if_pos (ovC_iff.2 ⟨i, k, by omega, by omega, h⟩)
    have hno3 : (mP a b i k).isOver = false → ∀ k', k' < k + 1 → (mP a b i k').isOver = false := fun h k' hk' => by
     by_cases e : k' = k
     ·rw [e]; exact h
     ·exact hno2 k' (by omega)
    refine callF_of cm ?_
    clear cm
    cases hm : mP a b i k with
    | apart =>
      rw [hm] at hrow hno3
      rw [show Mt.tch i k .apart = [] from rfl, List.append_nil] at hrow
      simp only [mtD, ptD, evX, evY, evZ, forall_const, implies_true, initE, stepF, D.clean, mvF, moF, tkF, shF, ariF, ciF, catF, scF, ebF, eqF, eqOk, eqPr, enF, notF, ngF, cvF, csF, csbF, lenF, lenSF, ixF, iaF, PX.slot, iaAF, faF, ldF, D.mem, stF, bxF, mkSF, boundF, fldF, ixAF, mmF2, D.plain, D.isPure, optAll, D.dull, callVF, splice, D.cells, D.one, sets, resT, D.flat, D.flat0, D.simple, Nat.reduceBNe, Nat.reduceLT, reduceIte, Nat.reduceEqDiff, Nat.reduceAdd, Nat.reduceMul, Nat.reduceSub, Nat.reduceLeDiff, Int.reduceToNat, Int.reduceLT, Int.reduceLE, Int.reduceEq, Int.reduceNeg, Int.reduceSub, Int.reduceAdd, Int.reduceMul, stG_own, ldC_pts]
      exact ⟨⟨by omega, by omega⟩, ⟨k + 1, by omega, hno3 rfl, by rw [hrow], by simp⟩, by omega⟩
    | over =>
      rw [hm] at hov
      simp only [mtD, ptD, evX, evY, evZ, forall_const, implies_true, initE, stepF, D.clean, mvF, moF, tkF, shF, ariF, ciF, catF, scF, ebF, eqF, eqOk, eqPr, enF, notF, ngF, cvF, csF, csbF, lenF, lenSF, ixF, iaF, PX.slot, iaAF, faF, ldF, D.mem, stF, bxF, mkSF, boundF, fldF, ixAF, mmF2, D.plain, D.isPure, optAll, D.dull, callVF, splice, D.cells, D.one, sets, resT, D.flat, D.flat0, D.simple, Nat.reduceBNe, Nat.reduceLT, reduceIte, Nat.reduceEqDiff, Nat.reduceAdd, Nat.reduceMul, Nat.reduceSub, Nat.reduceLeDiff, Int.reduceToNat, Int.reduceLT, Int.reduceLE, Int.reduceEq, Int.reduceNeg, Int.reduceSub, Int.reduceAdd, Int.reduceMul, stG_own, ldC_pts]
      rw [hov rfl]
      rfl
    | touch p =>
      rw [hm] at hrow hno3
      simp only [mtD, ptD, evX, evY, evZ, forall_const, implies_true, initE, stepF, D.clean, mvF, moF, tkF, shF, ariF, ciF, catF, scF, ebF, eqF, eqOk, eqPr, enF, notF, ngF, cvF, csF, csbF, lenF, lenSF, ixF, iaF, PX.slot, iaAF, faF, ldF, D.mem, stF, bxF, mkSF, boundF, fldF, ixAF, mmF2, D.plain, D.isPure, optAll, D.dull, callVF, splice, D.cells, D.one, sets, resT, D.flat, D.flat0, D.simple, Nat.reduceBNe, Nat.reduceLT, reduceIte, Nat.reduceEqDiff, Nat.reduceAdd, Nat.reduceMul, Nat.reduceSub, Nat.reduceLeDiff, Int.reduceToNat, Int.reduceLT, Int.reduceLE, Int.reduceEq, Int.reduceNeg, Int.reduceSub, Int.reduceAdd, Int.reduceMul, stG_own, ldC_pts]
      refine ⟨by omega, by omega, ⟨by omega, by omega⟩, ⟨k + 1, by omega, hno3 rfl, ?_, by simp⟩, by omega⟩
      have e5 := crl_snoc (outC (mP a b) nb i ++ rowC (mP a b) i k) (i, k, p)
      rw [hrow, show Mt.tch i k (.touch p) = [(i, k, p)] from rfl, ← List.append_assoc, e5]
      generalize outC (mP a b) nb i ++ rowC (mP a b) i k = o
      rw [List.length_append]
      rfl
   ·refine ⟨⟨by omega, by omega⟩, ⟨i + 1, by omega, fun i' k' h3 h4 => ?_, ?_, by simp⟩, by omega⟩
    ·by_cases e : i' = i
     ·rw [e]; exact hno2 k' (by omega)
     ·exact hno i' k' (by omega) h4
    ·have e : k = nb := by omega
     rw [e]; rfl
  ·have hol : (outC (mP a b) nb i).length ≤ 1000 := by
    have h1 := outC_len (mP a b) nb i
    have h3 : i * nb ≤ 9 * 9 := Nat.mul_le_mul (by omega) (by omega)
    omega
   have e : i = na := by omega
   subst e
   have hz : ∀ x ∈ outC (mP a b) nb i, Sz 200 x.2.2 := fun x hx => by
    obtain ⟨h1, h2, h3⟩ := mem_outC hx
    exact (sz_meetP (gt_sz hza (by omega)) (gt_sz hza (by omega)) (gt_sz hzb (by omega)) (gt_sz hzb (by omega)) h3).more (by decide)
   refine callF_of (Tryz.pcrHas _ hol hz) ?_
   (refine ev ?_; try exact ⟨⟩)
   have hnov : ¬ovC (mP a b) i nb = true := fun h => by
    obtain ⟨i', k', h3, h4, h5⟩ := ovC_iff.1 h
    rw [hno i' k' h3 h4] at h5; cases h5
   unfold crR
   rw [if_neg hnov]
   rfl
end Go.Proofs

/-
 POLYLINE: the law's crossings. Own work.
-/
namespace Go.Proofs
open Go Go.Pi Go.RowKit Go.Ar Go.Ge

/-- what the law's crossings returns -/
def crL (M : Nat → Nat → Mt) (na nb : Nat) : D := if ovC M na nb = true then .tup [.sl 0 [], .bool true] else .tup [.sl (outC M nb na).length (crl (outC M nb na)), .bool false]
theorem crL_al (M : Nat → Nat → Mt) (na nb : Nat) : aliasOf (crL M na nb) = none := by unfold crL; split <;> rfl
theorem lmD_cases (a b c d : Pt) : (meetL a b c d = .apart ∧ lmD a b c d = mtD .apart) ∨ (∃ p, meetL a b c d = .touch p ∧ lmD a b c d = mtD (.touch p)) ∨ (meetL a b c d = .over ∧ ∃ p, lmD a b c d = .tup [.int .i64 2, ptD p]) := by
 unfold lmD meetL
 match onB a b c d [a, b, c, d] with
 | [] =>
   unfold lmO
   by_cases h : 0 ≤ ar c d a * ar c d b ∨ 0 ≤ ar a b c * ar a b d
   ·exact .inl ⟨if_pos h, if_pos h⟩
   ·exact .inr (.inl ⟨_, if_neg h, if_neg h⟩)
 | [x] => exact .inr (.inl ⟨_, rfl, rfl⟩)
 | x :: y :: o => exact .inr (.inr ⟨rfl, _, rfl⟩)
set_option maxRecDepth 100000 in
set_option maxHeartbeats 8000000 in
theorem Tryz.lcrossings (a b : List Pt) (ha : a.length ≤ 10) (hb : b.length ≤ 10) (hza : ∀ p ∈ a, Sz 2 p) (hzb : ∀ p ∈ b, Sz 2 p) (la : 2 ≤ a.length) (lb : 2 ≤ b.length) : Con Tryz.prog Tryz.L 8 [chn a, chn b] (crL (mL a b) (a.length - 1) (b.length - 1)) := by
 have hA : ∀ j, j < a.length → a[j]? = some (gt a j) := fun j hj => by
  rw [List.getElem?_eq_getElem hj]; simp [gt, List.getD_eq_getElem?_getD, hj]
 have hB : ∀ j, j < b.length → b[j]? = some (gt b j) := fun j hj => by
  rw [List.getElem?_eq_getElem hj]; simp [gt, List.getD_eq_getElem?_getD, hj]
 obtain ⟨na, hna⟩ : ∃ na, a.length = na + 1 := ⟨a.length - 1, by omega⟩
 obtain ⟨nb, hnb⟩ : ∃ nb, b.length = nb + 1 := ⟨b.length - 1, by omega⟩
 rw [show a.length - 1 = na by omega, show b.length - 1 = nb by omega]
 refine rule8 Tryz.hL (crL_al _ _ _) rfl rfl ?_
 (simp only [pc8, rs8, oU, oC]; refine ev ?_; try exact ⟨⟩)
 refine loopF_of (fun E => ∃ i : Nat, i ≤ na ∧ (∀ i' k', i' < i → k' < nb → (mL a b i' k').isOver = false) ∧ E = [(0, chn a), (1, chn b), (6, .own true 38 (outC (mL a b) nb i).length (crl (outC (mL a b) nb i))), (7, .int .i64 i)])
  (fun E => match lk E 7 with | .int _ i => na - i.toNat | _ => 0) ⟨0, by omega, fun _ _ h => absurd h (by omega), rfl⟩ ?_
 rintro _ ⟨i, hi, hno, rfl⟩
 (refine ev ?_; try exact ⟨⟩)
 refine ⟨⟨by omega, by omega⟩, fun h1 => ?_, fun h1 => ?_⟩
 ·refine loopF_of (fun E => ∃ k : Nat, k ≤ nb ∧ (∀ k', k' < k → (mL a b i k').isOver = false) ∧ E = [(0, chn a), (1, chn b), (6, .own true 38 (outC (mL a b) nb i ++ rowC (mL a b) i k).length (crl (outC (mL a b) nb i ++ rowC (mL a b) i k))), (7, .int .i64 i), (8, .int .i64 k)])
   (fun E => match lk E 8 with | .int _ i => nb - i.toNat | _ => 0) ⟨0, by omega, fun _ h => absurd h (by omega), by rw [show rowC (mL a b) i 0 = [] from rfl, List.append_nil]; rfl⟩ ?_
  rintro _ ⟨k, hk, hno2, rfl⟩
  simp only [evX, evY, evZ, forall_const, implies_true, initE, stepF, D.clean, mvF, moF, tkF, shF, ariF, ciF, catF, scF, ebF, eqF, eqOk, eqPr, enF, notF, ngF, cvF, csF, csbF, lenF, lenSF, ixF, iaF, PX.slot, iaAF, faF, ldF, D.mem, stF, bxF, mkSF, boundF, fldF, ixAF, mmF2, D.plain, D.isPure, optAll, D.dull, callVF, splice, D.cells, D.one, sets, resT, D.flat, D.flat0, D.simple, Nat.reduceBNe, Nat.reduceLT, reduceIte, Nat.reduceEqDiff, Nat.reduceAdd, Nat.reduceMul, Nat.reduceSub, Nat.reduceLeDiff, Int.reduceToNat, Int.reduceLT, Int.reduceLE, Int.reduceEq, Int.reduceNeg, Int.reduceSub, Int.reduceAdd, Int.reduceMul, stG_own, ldC_pts]
  have hol : (outC (mL a b) nb i ++ rowC (mL a b) i k).length ≤ 1000 := by
   rw [List.length_append]
   have h1 := outC_len (mL a b) nb i
   have h2 := rowC_len (mL a b) i k
   have h3 : i * nb ≤ 9 * 9 := Nat.mul_le_mul (by omega) (by omega)
   omega
  refine ⟨⟨by omega, by omega⟩, fun h2 => ?_, fun h2 => ?_⟩
  ·have e3 : ((i : Int) + 1).toNat = i + 1 := by omega
   have e4 : ((k : Int) + 1).toNat = k + 1 := by omega
   rw [e3, e4]
   refine ⟨⟨by omega, by omega, by rw [pts_len]; omega⟩, _, hA i (by omega), ⟨by omega, by omega⟩, ⟨by omega, by omega, by rw [pts_len]; omega⟩, _, hA (i + 1) (by omega), ⟨by omega, by omega, by rw [pts_len]; omega⟩, _, hB k (by omega), ⟨by omega, by omega⟩, ⟨by omega, by omega, by rw [pts_len]; omega⟩, _, hB (k + 1) (by omega), ?_⟩
   have cm := Tryz.lmeet (gt a i) (gt a (i + 1)) (gt b k) (gt b (k + 1)) ((gt_sz hza (by omega)).more (by decide)) ((gt_sz hza (by omega)).more (by decide)) ((gt_sz hzb (by omega)).more (by decide)) ((gt_sz hzb (by omega)).more (by decide))
   have hcs := lmD_cases (gt a i) (gt a (i + 1)) (gt b k) (gt b (k + 1))
   have hrow : rowC (mL a b) i (k + 1) = rowC (mL a b) i k ++ (mL a b i k).tch i k := rfl
   have hov : (mL a b i k).isOver = true → crL (mL a b) na nb = .tup [.sl 0 [], .bool true] := fun h => if_pos (ovC_iff.2 ⟨i, k, by omega, by omega, h⟩)
   have hno3 : (mL a b i k).isOver = false → ∀ k', k' < k + 1 → (mL a b i k').isOver = false := fun h k' hk' => by
    by_cases e : k' = k
    ·rw [e]; exact h
    ·exact hno2 k' (by omega)
   refine callF_of cm ?_
   clear cm
   rcases hcs with ⟨hm, hd⟩ | ⟨p, hm, hd⟩ | ⟨hm, p, hd⟩
   ·rw [hd]
    rw [show mL a b i k = .apart from hm] at hrow hno3
    rw [show Mt.tch i k .apart = [] from rfl, List.append_nil] at hrow
    simp only [mtD, ptD, evX, evY, evZ, forall_const, implies_true, initE, stepF, D.clean, mvF, moF, tkF, shF, ariF, ciF, catF, scF, ebF, eqF, eqOk, eqPr, enF, notF, ngF, cvF, csF, csbF, lenF, lenSF, ixF, iaF, PX.slot, iaAF, faF, ldF, D.mem, stF, bxF, mkSF, boundF, fldF, ixAF, mmF2, D.plain, D.isPure, optAll, D.dull, callVF, splice, D.cells, D.one, sets, resT, D.flat, D.flat0, D.simple, Nat.reduceBNe, Nat.reduceLT, reduceIte, Nat.reduceEqDiff, Nat.reduceAdd, Nat.reduceMul, Nat.reduceSub, Nat.reduceLeDiff, Int.reduceToNat, Int.reduceLT, Int.reduceLE, Int.reduceEq, Int.reduceNeg, Int.reduceSub, Int.reduceAdd, Int.reduceMul, stG_own, ldC_pts]
    exact ⟨⟨by omega, by omega⟩, ⟨k + 1, by omega, hno3 rfl, by rw [hrow], by simp⟩, by omega⟩
   ·rw [hd]
    rw [show mL a b i k = .touch p from hm] at hrow hno3
    simp only [mtD, ptD, evX, evY, evZ, forall_const, implies_true, initE, stepF, D.clean, mvF, moF, tkF, shF, ariF, ciF, catF, scF, ebF, eqF, eqOk, eqPr, enF, notF, ngF, cvF, csF, csbF, lenF, lenSF, ixF, iaF, PX.slot, iaAF, faF, ldF, D.mem, stF, bxF, mkSF, boundF, fldF, ixAF, mmF2, D.plain, D.isPure, optAll, D.dull, callVF, splice, D.cells, D.one, sets, resT, D.flat, D.flat0, D.simple, Nat.reduceBNe, Nat.reduceLT, reduceIte, Nat.reduceEqDiff, Nat.reduceAdd, Nat.reduceMul, Nat.reduceSub, Nat.reduceLeDiff, Int.reduceToNat, Int.reduceLT, Int.reduceLE, Int.reduceEq, Int.reduceNeg, Int.reduceSub, Int.reduceAdd, Int.reduceMul, stG_own, ldC_pts]
    refine ⟨by omega, by omega, ⟨by omega, by omega⟩, ⟨k + 1, by omega, hno3 rfl, ?_, by simp⟩, by omega⟩
    have e5 := crl_snoc (outC (mL a b) nb i ++ rowC (mL a b) i k) (i, k, p)
    rw [hrow, show Mt.tch i k (.touch p) = [(i, k, p)] from rfl, ← List.append_assoc, e5]
    generalize outC (mL a b) nb i ++ rowC (mL a b) i k = o
    rw [List.length_append]
    rfl
   ·rw [hd]
    rw [show mL a b i k = .over from hm] at hov
    simp only [mtD, ptD, evX, evY, evZ, forall_const, implies_true, initE, stepF, D.clean, mvF, moF, tkF, shF, ariF, ciF, catF, scF, ebF, eqF, eqOk, eqPr, enF, notF, ngF, cvF, csF, csbF, lenF, lenSF, ixF, iaF, PX.slot, iaAF, faF, ldF, D.mem, stF, bxF, mkSF, boundF, fldF, ixAF, mmF2, D.plain, D.isPure, optAll, D.dull, callVF, splice, D.cells, D.one, sets, resT, D.flat, D.flat0, D.simple, Nat.reduceBNe, Nat.reduceLT, reduceIte, Nat.reduceEqDiff, Nat.reduceAdd, Nat.reduceMul, Nat.reduceSub, Nat.reduceLeDiff, Int.reduceToNat, Int.reduceLT, Int.reduceLE, Int.reduceEq, Int.reduceNeg, Int.reduceSub, Int.reduceAdd, Int.reduceMul, stG_own, ldC_pts]
    rw [hov rfl]
    rfl
  ·refine ⟨⟨by omega, by omega⟩, ⟨i + 1, by omega, fun i' k' h3 h4 => ?_, ?_, by simp⟩, by omega⟩
   ·by_cases e : i' = i
    ·rw [e]; exact hno2 k' (by omega)
    ·exact hno i' k' (by omega) h4
   ·have e : k = nb := by omega
    rw [e]; rfl
 ·have e : i = na := by omega
  subst e
  have hnov : ¬ovC (mL a b) i nb = true := fun h => by
   obtain ⟨i', k', h3, h4, h5⟩ := ovC_iff.1 h
   rw [hno i' k' h3 h4] at h5; cases h5
  unfold crL
  rw [if_neg hnov]
  rfl
end Go.Proofs
