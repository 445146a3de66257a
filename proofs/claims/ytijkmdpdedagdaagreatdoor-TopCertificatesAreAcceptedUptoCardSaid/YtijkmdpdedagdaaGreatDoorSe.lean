/-
  SUCCESSION: the queue behind container/heap's interface: its methods. Own work.
-/
import Derived.Test.YtijkmdpdedagdaaGreatDoorSc
import Derived.Test.YtijkmdpdedagdaaGreatDoorEe
import Derived.Test.YtijkmdpdedagdaaGreatDoorEd
import Derived.Handy
import Derived.Deep.AppendLies
import Derived.Test.YtijkmdpdedagdaaGreatDoorPj
import Derived.Test.YtijkmdpdedagdaaGreatDoorEg
set_option linter.unusedVariables false
set_option linter.unusedSimpArgs false
namespace Go.Tp
open Go Go.Pi Go.RowKit
abbrev intsV (Q : List Int) : List Value := Q.map (Value.int .i64)
/-- the heap in memory: a box with an own row -/
structure HQ (eQ eI : Nat) (w0 W : World) (hb : Nat) (v : Value) (Q : List Int) : Prop where
  bel : Below w0.heap.size w0 W
  lb : w0.heap.size ≤ hb
  box : Box1 W hb eQ v
  own : W.ownsRow w0.heap.size eI 1 v Q.length (intsV Q)
/-- what a step of the heap changes -/
def HSt (hb : Nat) (W : World) (v : Value) (W' : World) (v' : Value) : Prop := GrX (fun b => some b = v.ownBlock ∨ b = hb) W W' ∧ (v'.ownBlock = v.ownBlock ∨ ∀ g, v'.ownBlock = some g → W.heap.size ≤ g)
theorem HSt.refl (hb : Nat) (W : World) (v : Value) : HSt hb W v W v := ⟨.refl _ _, .inl rfl⟩
theorem HSt.trans {hb : Nat} {W W1 W2 : World} {v v1 v2 : Value} (h : HSt hb W v W1 v1) (k : HSt hb W1 v1 W2 v2) : HSt hb W v W2 v2 := by
  refine ⟨h.1.trans k.1 fun b hb' => ?_, ?_⟩
  · rcases hb' with e | e
    · rcases h.2 with h2 | h2
      · exact .inl (.inl (by rw [e, h2]))
      · exact .inr (h2 b e.symm)
    · exact .inl (.inr e)
  · rcases k.2 with k2 | k2
    · rw [k2]; exact h.2
    · exact .inr fun g hg => Nat.le_trans h.1.size (k2 g hg)
theorem HSt.of {hb : Nat} {W W' : World} {v : Value} (h : GrX (fun _ => False) W W') : HSt hb W v W' v := ⟨h.mono fun _ e => e.elim, .inl rfl⟩
namespace HQ
variable {eQ eI : Nat} {w0 W W' : World} {hb : Nat} {v : Value} {Q : List Int}
theorem kept {X : Nat → Prop} (h : HQ eQ eI w0 W hb v Q) (g : GrX X W W') (h1 : ¬X hb) (h2 : ∀ g, v.ownBlock = some g → ¬X g) (h3 : ∀ b, X b → w0.heap.size ≤ b) : HQ eQ eI w0 W' hb v Q :=
  ⟨g.below h.bel h3 h.bel.size, h.lb, h.box.kept g h1, g.own h.own h2⟩
theorem grown (h : HQ eQ eI w0 W hb v Q) (g : GrX (fun _ => False) W W') : HQ eQ eI w0 W' hb v Q := h.kept g id (fun _ _ e => e) (fun _ e => e.elim)
theorem one (h : HQ eQ eI w0 W hb v Q) : v.oneCell' = true := by
  rcases h.own.2 with ⟨rfl, _⟩ | ⟨g, cap, cur, rfl, _⟩ <;> rfl
theorem shape (h : HQ eQ eI w0 W hb v Q) (hq : 0 < Q.length) : ∃ g cap, v = .slice (some ⟨g, 0, none⟩) Q.length cap := by
  rcases h.own.2 with ⟨_, h2⟩ | ⟨g, cap, cur, rfl, _⟩
  · omega
  · exact ⟨g, cap, rfl⟩
theorem shape1 (h : HQ eQ eI w0 W hb v Q) : ∃ a cap, v = .slice a Q.length cap := by
  rcases h.own.2 with ⟨h1, h2⟩ | ⟨g, cap, cur, rfl, _⟩
  · exact ⟨none, 0, by rw [h1, h2]⟩
  · exact ⟨_, cap, rfl⟩
theorem at_ {g cap : Nat} (h : HQ eQ eI w0 W hb (.slice (some ⟨g, 0, none⟩) Q.length cap) Q) {i : Nat} (hi : i < Q.length) : W.cell? ⟨g, i, none⟩ = some (.int .i64 (gz Q i)) := by
  rw [h.own.cellAt i (by omega), List.getElem?_map, List.getElem?_eq_getElem hi, Option.map_some, getD_gz' hi]
end HQ
theorem intsV_set (Q : List Int) (i : Nat) (x : Int) : (intsV Q).set i (.int .i64 x) = intsV (Q.set i x) := by unfold intsV; rw [List.map_set]
theorem HQ.put2 {eQ eI : Nat} {w0 W : World} {hb g cap : Nat} {Q : List Int} (h : HQ eQ eI w0 W hb (.slice (some ⟨g, 0, none⟩) Q.length cap) Q) (hne : eI ≠ eQ) (i j : Nat) (x y : Int) :
    HQ eQ eI w0 ((W.setCell ⟨g, i, none⟩ (.int .i64 x)).setCell ⟨g, j, none⟩ (.int .i64 y)).drew hb (.slice (some ⟨g, 0, none⟩) Q.length cap) ((Q.set i x).set j y) ∧ HSt hb W (.slice (some ⟨g, 0, none⟩) Q.length cap) ((W.setCell ⟨g, i, none⟩ (.int .i64 x)).setCell ⟨g, j, none⟩ (.int .i64 y)).drew (.slice (some ⟨g, 0, none⟩) Q.length cap) := by
  obtain ⟨o1, g1⟩ := h.own.stored i (.int .i64 x)
  obtain ⟨o2, g2⟩ := o1.stored j (.int .i64 y)
  have gg : GrX (fun b => some b = (Value.slice (some ⟨g, 0, none⟩) Q.length cap).ownBlock) W ((W.setCell ⟨g, i, none⟩ (.int .i64 x)).setCell ⟨g, j, none⟩ (.int .i64 y)).drew := (GrX.ofGrown g1).trans (w2 := ((W.setCell ⟨g, i, none⟩ (.int .i64 x)).setCell ⟨g, j, none⟩ (.int .i64 y)).drew) (GrX.ofGrown ⟨g2.os, g2.tape, g2.output, g2.size, g2.block⟩) fun b hb => .inl hb
  rw [intsV_set, intsV_set] at o2
  refine ⟨⟨gg.below h.bel (fun b e => ?_) h.bel.size, h.lb, h.box.kept gg fun e => h.box.ne_own h.own hne e.symm, ?_⟩, gg.mono fun b hb => .inl (.inl hb), .inl rfl⟩
  · exact (h.own.lt b e.symm).1
  · rw [List.length_set, List.length_set]; exact o2.drew
end Go.Tp
namespace Go.Proofs
open Go Go.Pi Go.RowKit Go.Tp Go.Lib

theorem Tryz.qmPush (k : Nat) (w : World) (a : Addr) : (method (k + 1) 86 (.pointer (some a)) "Push").run Tryz.prog w = .ok (158, .pointer (some a)) w := by kernel_rfl
theorem Tryz.qmPop (k : Nat) (w : World) (a : Addr) : (method (k + 1) 86 (.pointer (some a)) "Pop").run Tryz.prog w = .ok (157, .pointer (some a)) w := by kernel_rfl
theorem Tryz.qmLen (k : Nat) (w : World) (a : Addr) (v : Value) (hv : v.oneCell' = true) (hc : w.cell? a = some v) : (method (k + 1) 86 (.pointer (some a)) "Len").run Tryz.prog w = .ok (37, v) w := by
  have : (method (k + 1) 86 (.pointer (some a)) "Len").run Tryz.prog w = ((loadVar 87 a >>= fun x => pure (37, x)).run Tryz.prog w) := by kernel_rfl
  rw [this]
  have t6 := Tryz.underlying87; have a6 := Tryz.isAgg87; have z6 := Tryz.sizeOf87
  simp [go_sem, hc, a6, z6, t6]
theorem Tryz.qmLess (k : Nat) (w : World) (a : Addr) (v : Value) (hv : v.oneCell' = true) (hc : w.cell? a = some v) : (method (k + 1) 86 (.pointer (some a)) "Less").run Tryz.prog w = .ok (156, v) w := by
  have : (method (k + 1) 86 (.pointer (some a)) "Less").run Tryz.prog w = ((loadVar 87 a >>= fun x => pure (156, x)).run Tryz.prog w) := by kernel_rfl
  rw [this]
  have t6 := Tryz.underlying87; have a6 := Tryz.isAgg87; have z6 := Tryz.sizeOf87
  simp [go_sem, hc, a6, z6, t6]
theorem Tryz.qmSwap (k : Nat) (w : World) (a : Addr) (v : Value) (hv : v.oneCell' = true) (hc : w.cell? a = some v) : (method (k + 1) 86 (.pointer (some a)) "Swap").run Tryz.prog w = .ok (159, v) w := by
  have : (method (k + 1) 86 (.pointer (some a)) "Swap").run Tryz.prog w = ((loadVar 87 a >>= fun x => pure (159, x)).run Tryz.prog w) := by kernel_rfl
  rw [this]
  have t6 := Tryz.underlying87; have a6 := Tryz.isAgg87; have z6 := Tryz.sizeOf87
  simp [go_sem, hc, a6, z6, t6]

theorem Tryz.qLen (W : World) (a : Option Addr) (n cap : Nat) : Calls Tryz.prog 37 #[.slice a n cap] W fun e W' => e = .returned (.int .i64 n) ∧ W' = W := by
  have mixed : Tryz.prog.follows .mixedOrders = true := by kernel_rfl
  have t6 := Tryz.underlying87; have t4 := Tryz.underlying3
  go_enter Tryz.func37, Tryz.ntmps37
  go_wp2
  go_ret
  exact ⟨rfl, rfl⟩
set_option maxRecDepth 100000 in
set_option maxHeartbeats 4000000 in
theorem Tryz.qLess {w0 W : World} {hb : Nat} {v : Value} {Q : List Int} (h : HQ 87 3 w0 W hb v Q) {i j : Nat} (hi : i < Q.length) (hj : j < Q.length) :
    Calls Tryz.prog 156 #[v, .int .i64 i, .int .i64 j] W fun e W' => e = .returned (.bool (decide (gz Q i < gz Q j))) ∧ GrX (fun _ => False) W W' := by
  have mixed : Tryz.prog.follows .mixedOrders = true := by kernel_rfl
  have t6 := Tryz.underlying87; have a6 := Tryz.isAgg87; have z6 := Tryz.sizeOf87; have v6 := Tryz.zeroValue87
  have t4 := Tryz.underlying3; have a4 := Tryz.isAgg3; have z4 := Tryz.sizeOf3; have v4 := Tryz.zeroValue3
  have t3 := Tryz.underlying4
  obtain ⟨g, cap, rfl⟩ := h.shape (by omega)
  have c1 := h.at_ hi
  have c2 := h.at_ hj
  have b1 : (i : Int) < (Q.length : Int) := by omega
  have b2 : (j : Int) < (Q.length : Int) := by omega
  have hgr : GrX (fun _ => False) W W.drew := ⟨rfl, rfl, rfl, Nat.le_refl _, fun _ _ _ => rfl⟩
  clear h
  generalize gz Q i = x at *
  generalize gz Q j = y at *
  go_enter Tryz.func156, Tryz.ntmps156
  go_wp2_with fail
  go_region_held3 (fun w' => w'.cell? ⟨g, i, none⟩ = some (.int .i64 x) ∧ w'.cell? ⟨g, j, none⟩ = some (.int .i64 y)) (go_keep) (fail)
  all_goals go_wp2
  all_goals go_ret
  all_goals exact ⟨rfl, hgr⟩
set_option maxRecDepth 100000 in
set_option maxHeartbeats 4000000 in
theorem Tryz.qSwap {w0 W : World} {hb : Nat} {v : Value} {Q : List Int} (h : HQ 87 3 w0 W hb v Q) {i j : Nat} (hi : i < Q.length) (hj : j < Q.length) :
    Calls Tryz.prog 159 #[v, .int .i64 i, .int .i64 j] W fun e W' => e = .returned (.tuple #[]) ∧ HQ 87 3 w0 W' hb v (swp Q i j) ∧ HSt hb W v W' v := by
  have mixed : Tryz.prog.follows .mixedOrders = true := by kernel_rfl
  have t6 := Tryz.underlying87; have a6 := Tryz.isAgg87; have z6 := Tryz.sizeOf87; have v6 := Tryz.zeroValue87
  have t4 := Tryz.underlying3; have a4 := Tryz.isAgg3; have z4 := Tryz.sizeOf3; have v4 := Tryz.zeroValue3
  have t3 := Tryz.underlying4
  obtain ⟨g, cap, rfl⟩ := h.shape (by omega)
  have c1 := h.at_ hi
  have c2 := h.at_ hj
  have f1 := h.own.frozenAt i
  have f2 := h.own.frozenAt j
  have b1 : (i : Int) < (Q.length : Int) := by omega
  have b2 : (j : Int) < (Q.length : Int) := by omega
  have HH : Hid (HQ 87 3 w0 W hb (.slice (some ⟨g, 0, none⟩) Q.length cap) Q) := h
  have hlt := (h.own.lt g rfl).2
  clear h
  have HX : Hid (∃ x y : Int, gz Q i = x ∧ gz Q j = y) := ⟨_, _, rfl, rfl⟩
  generalize hx : gz Q i = x at *
  generalize hy : gz Q j = y at *
  go_enter Tryz.func159, Tryz.ntmps159
  by_cases hij : i = j
  · subst hij
    obtain rfl : x = y := hx.symm.trans hy
    go_wp2_with fail
    go_big_region_o
    all_goals go_wp2
    all_goals go_end0
    have := HH.out.put2 (by decide) i i x x
    unfold swp
    rw [hx]
    exact ⟨rfl, this⟩
  · have n1 : j ≠ i := fun e => hij e.symm
    go_wp2_with fail
    go_big_region_o
    all_goals go_wp2
    all_goals go_end0
    have := HH.out.put2 (by decide) i j y x
    unfold swp
    rw [hx, hy]
    exact ⟨rfl, this⟩
end Go.Proofs

/-
  SUCCESSION: Push and Pop of the queue; container/heap. Own work.
-/
namespace Go.Tp
open Go Go.Pi Go.RowKit
theorem HQ.pushA {eQ eI : Nat} {w0 W : World} {hb : Nat} {v : Value} {Q : List Int} (h : HQ eQ eI w0 W hb v Q) (hne : eI ≠ eQ) {Wx W1 : World} {o : Obj} {x : Int} {g1 c1 : Nat}
    (e1 : Wx.os = W.os) (e2 : Wx.tape = W.tape) (e3 : Wx.output = W.output) (hw : Wx.heap = (W.alloc o).heap) (hg : Wx.grownBy W1 v.ownBlock) (hown : W1.ownsRow w0.heap.size eI 1 (.slice (some ⟨g1, 0, none⟩) (Q.length + 1) c1) (Q.length + 1) (intsV Q ++ [.int .i64 x])) (hl : v.ownBlock = some g1 ∨ g1 = Wx.heap.size) :
    (HQ eQ eI w0 (W1.setCell ⟨hb, 0, none⟩ (.slice (some ⟨g1, 0, none⟩) (Q.length + 1) c1)) hb (.slice (some ⟨g1, 0, none⟩) (Q.length + 1) c1) (Q ++ [x]) ∧ HSt hb W v (W1.setCell ⟨hb, 0, none⟩ (.slice (some ⟨g1, 0, none⟩) (Q.length + 1) c1)) (.slice (some ⟨g1, 0, none⟩) (Q.length + 1) c1)) ∧ Box1 W1 hb eQ v := by
  have gx := gr_gen (o := o) e1 e2 e3 hw
  have hx := h.grown gx
  have gy : GrX (fun b => some b = v.ownBlock) Wx W1 := .ofGrown hg
  have nb : ¬(some hb = v.ownBlock) := fun e => hx.box.ne_own hx.own hne e.symm
  have b1 := hx.box.kept gy nb
  obtain ⟨b2, gz⟩ := b1.put (.slice (some ⟨g1, 0, none⟩) (Q.length + 1) c1)
  have ga : GrX (fun b => some b = v.ownBlock ∨ b = hb) W (W1.setCell ⟨hb, 0, none⟩ (.slice (some ⟨g1, 0, none⟩) (Q.length + 1) c1)) := by
    refine (gx.mono (Y := fun b => some b = v.ownBlock ∨ b = hb) fun _ e => e.elim).trans ((gy.mono (Y := fun b => some b = v.ownBlock ∨ b = hb) fun b e => .inl (.inl e)).trans gz fun b e => .inl (.inr e)) fun b e => .inl e
  refine ⟨⟨⟨ga.below h.bel (fun b e => ?_) h.bel.size, h.lb, b2, ?_⟩, ga, ?_⟩, b1⟩
  · rcases e with e | e
    · exact (h.own.lt b e.symm).1
    · rw [e]; exact h.lb
  · have : intsV Q ++ [.int .i64 x] = intsV (Q ++ [x]) := by simp [intsV]
    rw [this] at hown
    rw [List.length_append, List.length_singleton]
    exact gz.own hown fun g hg e => b1.ne_own hown hne (by rw [hg, e])
  · rcases hl with hl | hl
    · exact .inl (by rw [hl]; rfl)
    · exact .inr fun g hg => by
        have : g1 = g := by simpa [Value.ownBlock] using hg
        have := gx.size
        omega
theorem HQ.cutA {eQ eI : Nat} {w0 W : World} {hb g cap : Nat} {Q : List Int} (h : HQ eQ eI w0 W hb (.slice (some ⟨g, 0, none⟩) Q.length cap) Q) (hne : eI ≠ eQ) (hq : 0 < Q.length) :
    HQ eQ eI w0 (W.setCell ⟨hb, 0, none⟩ (.slice (some ⟨g, 0, none⟩) (Q.length - 1) cap)) hb (.slice (some ⟨g, 0, none⟩) (Q.length - 1) cap) (Q.take (Q.length - 1)) ∧ HSt hb W (.slice (some ⟨g, 0, none⟩) Q.length cap) (W.setCell ⟨hb, 0, none⟩ (.slice (some ⟨g, 0, none⟩) (Q.length - 1) cap)) (.slice (some ⟨g, 0, none⟩) (Q.length - 1) cap) := by
  obtain ⟨b2, gz⟩ := h.box.put (.slice (some ⟨g, 0, none⟩) (Q.length - 1) cap)
  have hcut := own_less h.own (m := Q.length - 1) (by omega)
  refine ⟨⟨gz.below h.bel (fun b e => by rw [e]; exact h.lb) h.bel.size, h.lb, b2, ?_⟩, gz.mono fun b e => .inl (.inr e), .inl rfl⟩
  have hl : (Q.take (Q.length - 1)).length = Q.length - 1 := by rw [List.length_take]; omega
  have := gz.own hcut fun k hk e => by
    have : g = k := by simpa [Value.ownBlock] using hk
    exact h.box.ne_own h.own hne (by rw [← e, ← this]; rfl)
  rw [hl]
  rw [Nat.mul_one] at this
  rw [show intsV (Q.take (Q.length - 1)) = (intsV Q).take (Q.length - 1) by unfold intsV; rw [List.map_take]]
  exact this
end Go.Tp
namespace Go.Proofs
open Go Go.Pi Go.RowKit Go.Tp Go.Lib
set_option maxRecDepth 100000 in
set_option maxHeartbeats 4000000 in
theorem Tryz.qPush {w0 W : World} {hb : Nat} {v : Value} {Q : List Int} (h : HQ 87 3 w0 W hb v Q) (hq : Q.length ≤ 1000) (x : Int) :
    Calls Tryz.prog 158 #[.pointer (some ⟨hb, 0, none⟩), .iface 3 (.int .i64 x)] W fun e W' => e = .returned (.tuple #[]) ∧ ∃ v', HQ 87 3 w0 W' hb v' (Q ++ [x]) ∧ HSt hb W v W' v' := by
  have mixed : Tryz.prog.follows .mixedOrders = true := by kernel_rfl
  have t6 := Tryz.underlying87; have a6 := Tryz.isAgg87; have z6 := Tryz.sizeOf87; have v6 := Tryz.zeroValue87; have u6 := run_underlying Tryz.underlying87
  have t4 := Tryz.underlying3; have a4 := Tryz.isAgg3; have z4 := Tryz.sizeOf3; have v4 := Tryz.zeroValue3; have u4 := run_underlying Tryz.underlying3
  have t7 := Tryz.underlying86
  have hip : (Tryz.prog.info? 3).map (fun i => (i.zero, i.size, i.bytes)) = some (some (.int .i64 0), 1, 8) := by kernel_rfl
  obtain ⟨ip, hip1, hip2, hip3, hip4⟩ := info_parts hip
  have qa : ∀ w : World, (Instr.typeAssert (.iface 3 (.int .i64 x)) 20 3 false).run Tryz.prog w = .ok (.int .i64 x) w := fun w => by kernel_rfl
  have hbw := h.bel.size
  have c1 := h.box.cell
  have f1 := h.box.frozen
  have l1 := h.box.lt
  obtain ⟨a, cap, rfl⟩ := h.shape1
  have HH : Hid (HQ 87 3 w0 W hb (.slice a Q.length cap) Q) := h
  clear h
  go_enter Tryz.func158, Tryz.ntmps158
  go_wp2_with fail
  go_region_law (refine step_append_lies _ rfl (.tmp 7) (.tmp 10) 87 rfl w0.heap.size 3 ip (.int .i64 0) 1 8 Tryz.underlying87 hip1 hip2 hip3 hip4 rfl (by decide) (.slice a Q.length cap) Q.length (intsV Q) (by simp [Act.eval, Act.put]) (own_gen (o := .cells #[.int .i64 x] 3) HH.out.own rfl) ⟨W.heap.size, 0, none⟩ 1 1 [.int .i64 x] (by simp [Act.eval, Act.put]) rfl (news_gen W _ #[.int .i64 x] 3 _ rfl rfl) (by simp [Value.oneCell']) (by decide) (by unfold maxLen; omega) (by omega) (by simp; omega) _ rfl ?_; intro g1 c1' w1 ho1 hg1' hl1 hlt3; obtain ⟨⟨i1, i2⟩, b1⟩ := HQ.pushA (o := .cells #[.int .i64 x] 3) (x := x) HH.out (by decide) (by rfl) (by rfl) (by rfl) (by rfl) hg1' ho1 hl1; have k1 := b1.cell; have k2 := b1.frozen)
  all_goals go_wp2
  all_goals go_end0
  all_goals exact ⟨rfl, _, i1, i2⟩
set_option maxRecDepth 100000 in
set_option maxHeartbeats 4000000 in
theorem Tryz.qPop {w0 W : World} {hb : Nat} {v : Value} {Q : List Int} (h : HQ 87 3 w0 W hb v Q) (hq : 0 < Q.length) (hq2 : Q.length ≤ 1000) :
    Calls Tryz.prog 157 #[.pointer (some ⟨hb, 0, none⟩)] W fun e W' => e = .returned (.iface 3 (.int .i64 (gz Q (Q.length - 1)))) ∧ ∃ v', HQ 87 3 w0 W' hb v' (Q.take (Q.length - 1)) ∧ HSt hb W v W' v' := by
  have mixed : Tryz.prog.follows .mixedOrders = true := by kernel_rfl
  have t6 := Tryz.underlying87; have a6 := Tryz.isAgg87; have z6 := Tryz.sizeOf87; have v6 := Tryz.zeroValue87; have u6 := run_underlying Tryz.underlying87
  have t4 := Tryz.underlying3; have a4 := Tryz.isAgg3; have z4 := Tryz.sizeOf3; have v4 := Tryz.zeroValue3; have u4 := run_underlying Tryz.underlying3
  have t7 := Tryz.underlying86
  have c1 := h.box.cell
  have f1 := h.box.frozen
  have l1 := h.box.lt
  obtain ⟨g, cap, rfl⟩ := h.shape hq
  have c2 := h.at_ (i := Q.length - 1) (by omega)
  have hcap : Q.length ≤ cap := by
    rcases h.own.2 with ⟨e, _⟩ | ⟨_, _, _, e, _, _, hn, _⟩
    · cases e
    · cases e; exact hn
  have b1 : (Q.length : Int) - 1 < (Q.length : Int) := by omega
  have b2 : (0 : Int) ≤ (Q.length : Int) - 1 := by omega
  have b3 : ((Q.length : Int) - 1).toNat = Q.length - 1 := by omega
  have b4 : (Q.length : Int) - 1 ≤ (cap : Int) := by omega
  have b5 : IntKind.i64.wrap ((Q.length : Int) - 1) = (Q.length : Int) - 1 := by rw [IntKind.wrap_i64]; omega
  obtain ⟨i1, i2⟩ := h.cutA (by decide) hq
  clear h
  go_enter Tryz.func157, Tryz.ntmps157
  go_wp2
  go_ret
  exact ⟨rfl, _, i1, i2⟩
end Go.Proofs

/-
  SUCCESSION: container/heap over the queue. Own work.
-/
namespace Go.Proofs
open Go Go.Pi Go.RowKit Go.Tp Go.Lib
theorem upF_more : ∀ (f g : Nat) (Q : List Int) (j : Nat), j < f → j < g → upF f Q j = upF g Q j
  | f + 1, g + 1, Q, j, h1, h2 => by
    unfold upF
    split
    · rfl
    · rename_i h
      have : (j - 1) / 2 < j := by omega
      exact upF_more f g _ _ (by omega) (by omega)
set_option maxRecDepth 100000 in
set_option maxHeartbeats 4000000 in
theorem Tryz.hUp {w0 W : World} {hb : Nat} {v : Value} {Q : List Int} (h : HQ 87 3 w0 W hb v Q) {j : Nat} (hj : j < Q.length) (hq : Q.length ≤ 1000) :
    Calls Tryz.prog 62 #[.iface 86 (.pointer (some ⟨hb, 0, none⟩)), .int .i64 j] W fun e W' => e = .returned (.tuple #[]) ∧ HQ 87 3 w0 W' hb v (upF (j + 1) Q j) ∧ HSt hb W v W' v := by
  have mixed : Tryz.prog.follows .mixedOrders = true := by kernel_rfl
  have t6 := Tryz.underlying87; have a6 := Tryz.isAgg87; have z6 := Tryz.sizeOf87; have v6 := Tryz.zeroValue87; have u6 := run_underlying Tryz.underlying87
  have t4 := Tryz.underlying3; have a4 := Tryz.isAgg3; have z4 := Tryz.sizeOf3; have v4 := Tryz.zeroValue3; have u4 := run_underlying Tryz.underlying3
  have t3 := Tryz.underlying4
  have t7 := Tryz.underlying86
  have t8 := Tryz.underlying119
  go_enter Tryz.func62, Tryz.ntmps62
  go_wp2
  go_loopg [1] j (fun gg s1 wr => ∃ (k : Nat) (R : List Int), s1 = .int .i64 k ∧ k ≤ gg ∧ k < R.length ∧ R.length = Q.length ∧ HQ 87 3 w0 wr hb v R ∧ HSt hb W v wr v ∧ upF (k + 1) R k = upF (j + 1) Q j)
  case atStart => exact ⟨j, Q, rfl, Nat.le_refl _, hj, rfl, h, .refl _ _ _, rfl⟩
  case round =>
    clear h
    obtain ⟨k, R, rfl, hkg, hk, hRl, hI, hS, hF⟩ := hrel
    by_cases hk0 : k = 0
    · subst hk0
      have HI : Hid (HQ 87 3 w0 wr hb v R ∧ HSt hb W v wr v ∧ upF (0 + 1) R 0 = upF (j + 1) Q j) := ⟨hI, hS, hF⟩
      clear hI hS hF
      go_wp2
      go_end0
      obtain ⟨x1, x2, x3⟩ := HI.out
      rw [← x3]
      exact ⟨rfl, by simpa [upF] using x1, x2⟩
    · obtain ⟨i, hi⟩ : ∃ i, i = (k - 1) / 2 := ⟨_, rfl⟩
      have e1 : IntKind.i64.wrap ((k : Int) - 1) = ((k - 1 : Nat) : Int) := by rw [IntKind.wrap_i64]; omega
      have E2 : Hid (((k - 1 : Nat) : Int) / 2 = (i : Int)) := by show _ = _; omega
      have hik : i < k := by omega
      have hIc := hI.box.cell
      have hL := Tryz.qLess hI (i := k) (j := i) hk (by omega)
      rw [← E2.out] at hL
      have HI : Hid (HQ 87 3 w0 wr hb v R ∧ HSt hb W v wr v ∧ upF (k + 1) R k = upF (j + 1) Q j ∧ i = (k - 1) / 2) := ⟨hI, hS, hF, hi⟩
      have h1 := hI.one
      have qm1 := fun m => Tryz.qmLess m wr ⟨hb, 0, none⟩ v h1 hIc
      clear hI hS hF hi
      by_cases hless : gz R k < gz R i
      · have hd : decide (gz R k < gz R i) = true := decide_eq_true hless
        rw [hd] at hL
        go_wp2_with (first
          | (go_at_call 156; refine Calls.mono hL ?_; rintro e W1 ⟨rfl, hg1⟩; have hI1 := HI.out.1.grown hg1; have qm2 := fun m => Tryz.qmSwap m W1 ⟨hb, 0, none⟩ v h1 hI1.box.cell; have hSw := Tryz.qSwap hI1 (i := i) (j := k) (by omega) hk; rw [← E2.out] at hSw; have HI1 : Hid (HSt hb wr v W1 v) := .of hg1; clear hI1)
          | (go_at_call 159; refine Calls.mono hSw ?_; rintro e W2 ⟨rfl, hI2, hS2⟩; have HI2 : Hid (HQ 87 3 w0 W2 hb v (swp R i k) ∧ HSt hb W1 v W2 v) := ⟨hI2, hS2⟩; clear hI2 hS2 hSw qm2))
        go_roundg i
        case measure => omega
        case rel =>
          refine ⟨i, swp R i k, by rw [E2.out], Nat.le_refl _, by rw [swp_len]; omega, by rw [swp_len]; omega, HI2.out.1, (HI.out.2.1.trans HI1.out).trans HI2.out.2, ?_⟩
          rw [← HI.out.2.2.1]
          have hi := HI.out.2.2.2
          conv => rhs; unfold upF
          rw [← hi, if_neg (by omega)]
          exact upF_more _ _ _ _ (by omega) (by omega)
      · have hd : decide (gz R k < gz R i) = false := decide_eq_false hless
        rw [hd] at hL
        go_wp2_with (go_at_call 156; refine Calls.mono hL ?_; rintro e W1 ⟨rfl, hg1⟩)
        go_end0
        refine ⟨rfl, ?_, HI.out.2.1.trans (.of hg1)⟩
        have : upF (k + 1) R k = R := by
          unfold upF
          rw [← HI.out.2.2.2, if_pos (by omega)]
        rw [← HI.out.2.2.1, this]
        exact HI.out.1.grown hg1
def RetB (e : Ending) : Prop := ∃ b, e = .returned (.bool b)
theorem downF_more : ∀ (f g : Nat) (Q : List Int) (i n : Nat), n < f + i → n < g + i → downF f Q i n = downF g Q i n
  | 0, 0, Q, i, n, _, _ => rfl
  | 0, g + 1, Q, i, n, h, _ => by unfold downF; rw [if_pos (.inl (by omega))]
  | f + 1, 0, Q, i, n, _, h => by unfold downF; rw [if_pos (.inl (by omega))]
  | f + 1, g + 1, Q, i, n, h1, h2 => by
    unfold downF
    split
    · rfl
    · rename_i h
      have := (kid_lt (Q := Q) (i := i) (n := n) fun e => h (.inl e)).2
      exact downF_more f g _ _ _ (by omega) (by omega)
set_option maxRecDepth 100000 in
set_option maxHeartbeats 8000000 in
theorem Tryz.hDown {w0 W : World} {hb : Nat} {v : Value} {Q : List Int} (h : HQ 87 3 w0 W hb v Q) {n : Nat} (hn : n ≤ Q.length) (hq : Q.length ≤ 1000) :
    Calls Tryz.prog 63 #[.iface 86 (.pointer (some ⟨hb, 0, none⟩)), .int .i64 0, .int .i64 n] W fun e W' => RetB e ∧ HQ 87 3 w0 W' hb v (downF (n + 1) Q 0 n) ∧ HSt hb W v W' v := by
  have mixed : Tryz.prog.follows .mixedOrders = true := by kernel_rfl
  have t6 := Tryz.underlying87; have a6 := Tryz.isAgg87; have z6 := Tryz.sizeOf87; have v6 := Tryz.zeroValue87; have u6 := run_underlying Tryz.underlying87
  have t4 := Tryz.underlying3; have a4 := Tryz.isAgg3; have z4 := Tryz.sizeOf3; have v4 := Tryz.zeroValue3; have u4 := run_underlying Tryz.underlying3
  have t3 := Tryz.underlying4
  have t7 := Tryz.underlying86
  have t8 := Tryz.underlying119
  go_enter Tryz.func63, Tryz.ntmps63
  go_wp2
  go_loopg [7] n (fun gg s1 wr => ∃ (k : Nat) (R : List Int), s1 = .int .i64 k ∧ n ≤ gg + k ∧ (k = 0 ∨ k < n) ∧ R.length = Q.length ∧ HQ 87 3 w0 wr hb v R ∧ HSt hb W v wr v ∧ downF (n + 1) R k n = downF (n + 1) Q 0 n)
  case atStart => exact ⟨0, Q, rfl, by omega, .inl rfl, rfl, h, .refl _ _ _, rfl⟩
  case round =>
    clear h
    obtain ⟨k, R, rfl, hkg, hk, hRl, hI, hS, hF⟩ := hrel
    have e1 : IntKind.i64.wrap (2 * (k : Int)) = 2 * (k : Int) := by rw [IntKind.wrap_i64]; omega
    obtain ⟨m, hm⟩ : ∃ m, m = 2 * k + 1 := ⟨_, rfl⟩
    have e2 : IntKind.i64.wrap (2 * (k : Int) + 1) = (m : Int) := by rw [IntKind.wrap_i64]; omega
    obtain ⟨m2, hm2⟩ : ∃ m2, m2 = m + 1 := ⟨_, rfl⟩
    have e3 : IntKind.i64.wrap ((m : Int) + 1) = (m2 : Int) := by rw [IntKind.wrap_i64]; omega
    have e4 : ¬((m : Int) < 0) := by omega
    have hkm : k < m := by omega
    have hkm2 : k < m2 := by omega
    have HI : Hid (HQ 87 3 w0 wr hb v R ∧ HSt hb W v wr v ∧ downF (n + 1) R k n = downF (n + 1) Q 0 n ∧ m = 2 * k + 1 ∧ m2 = m + 1) := ⟨hI, hS, hF, hm, hm2⟩
    have h1 := hI.one
    by_cases hc : n ≤ m
    · have hcz : (n : Int) ≤ (m : Int) := by omega
      have hex : downF (n + 1) R k n = R := by unfold downF; rw [if_pos (.inl (by omega))]
      have HX : Hid (downF (n + 1) R k n = R) := hex
      clear hI hS hF hm hm2 hex
      go_wp2
      go_ret
      refine ⟨⟨_, rfl⟩, ?_, HI.out.2.1⟩
      rw [← HI.out.2.2.1, HX.out]
      exact HI.out.1
    · have hcz : ¬((n : Int) ≤ (m : Int)) := by omega
      have hIc := hI.box.cell
      have qm1 := fun q => Tryz.qmLess q wr ⟨hb, 0, none⟩ v h1 hIc
      by_cases hd : m2 < n
      · have hdz : (m2 : Int) < (n : Int) := by omega
        have hL := Tryz.qLess hI (i := m2) (j := m) (by omega) (by omega)
        clear hI hS hF
        by_cases hless : gz R m2 < gz R m
        · have hdd : decide (gz R m2 < gz R m) = true := decide_eq_true hless
          rw [hdd] at hL
          have hkid : Hid (kid R k n = m2) := by show kid R k n = m2; unfold kid; rw [if_pos ⟨by omega, by rw [show 2 * k + 2 = m2 by omega, show 2 * k + 1 = m by omega]; exact hless⟩]; omega
          clear hm hm2
          by_cases hl2 : gz R m2 < gz R k
          · have hd2 : decide (gz R m2 < gz R k) = true := decide_eq_true hl2
            go_wp2_with (first
              | (go_at_call 156; refine Calls.mono hL ?_; rintro e W1 ⟨rfl, hg1⟩; have hI1 := HI.out.1.grown hg1; have qm3 := fun q => Tryz.qmLess q W1 ⟨hb, 0, none⟩ v h1 hI1.box.cell; have hL2 := Tryz.qLess hI1 (i := m2) (j := k) (by omega) (by omega); rw [hd2] at hL2; have HI1 : Hid (HQ 87 3 w0 W1 hb v R ∧ HSt hb wr v W1 v) := ⟨hI1, .of hg1⟩; clear hI1 hL qm1)
              | (go_at_call 156; refine Calls.mono hL2 ?_; rintro e W2 ⟨rfl, hg2⟩; have hI2 := HI1.out.1.grown hg2; have qm2 := fun q => Tryz.qmSwap q W2 ⟨hb, 0, none⟩ v h1 hI2.box.cell; have hSw := Tryz.qSwap hI2 (i := k) (j := m2) (by omega) (by omega); have HI2 : Hid (HSt hb wr v W2 v) := HI1.out.2.trans (.of hg2); clear hI2 hL2)
              | (go_at_call 159; refine Calls.mono hSw ?_; rintro e W3 ⟨rfl, hI3, hS3⟩; have HI3 : Hid (HQ 87 3 w0 W3 hb v (swp R k m2) ∧ HSt hb W2 v W3 v) := ⟨hI3, hS3⟩; clear hI3 hS3 hSw qm2))
            go_roundg (n - m2)
            case measure => omega
            case rel =>
              refine ⟨m2, swp R k m2, rfl, by omega, .inr (by omega), by rw [swp_len]; omega, HI3.out.1, (HI.out.2.1.trans HI2.out).trans HI3.out.2, ?_⟩
              have q1 := HI.out.2.2.2.1
              have q2 := HI.out.2.2.2.2
              rw [← HI.out.2.2.1]
              conv => rhs; unfold downF
              rw [hkid.out, if_neg (by omega)]
              exact downF_more _ _ _ _ _ (by omega) (by omega)
          · have hd2 : decide (gz R m2 < gz R k) = false := decide_eq_false hl2
            go_wp2_with (first
              | (go_at_call 156; refine Calls.mono hL ?_; rintro e W1 ⟨rfl, hg1⟩; have hI1 := HI.out.1.grown hg1; have qm3 := fun q => Tryz.qmLess q W1 ⟨hb, 0, none⟩ v h1 hI1.box.cell; have hL2 := Tryz.qLess hI1 (i := m2) (j := k) (by omega) (by omega); rw [hd2] at hL2; have HI1 : Hid (HQ 87 3 w0 W1 hb v R ∧ HSt hb wr v W1 v) := ⟨hI1, .of hg1⟩; clear hI1 hL qm1)
              | (go_at_call 156; refine Calls.mono hL2 ?_; rintro e W2 ⟨rfl, hg2⟩; have HI2 : Hid (HQ 87 3 w0 W2 hb v R ∧ HSt hb wr v W2 v) := ⟨HI1.out.1.grown hg2, HI1.out.2.trans (.of hg2)⟩; clear hL2))
            go_ret
            have : downF (n + 1) R k n = R := by
              unfold downF
              rw [hkid.out, if_pos (.inr (by omega))]
            refine ⟨⟨_, rfl⟩, ?_, HI.out.2.1.trans HI2.out.2⟩
            rw [← HI.out.2.2.1, this]
            exact HI2.out.1
        · have hdd : decide (gz R m2 < gz R m) = false := decide_eq_false hless
          rw [hdd] at hL
          have hkid : Hid (kid R k n = m) := by show kid R k n = m; unfold kid; rw [if_neg fun e => hless (by rw [show 2 * k + 2 = m2 by omega, show 2 * k + 1 = m by omega] at e; exact e.2)]; omega
          clear hm hm2
          by_cases hl2 : gz R m < gz R k
          · have hd2 : decide (gz R m < gz R k) = true := decide_eq_true hl2
            go_wp2_with (first
              | (go_at_call 156; refine Calls.mono hL ?_; rintro e W1 ⟨rfl, hg1⟩; have hI1 := HI.out.1.grown hg1; have qm3 := fun q => Tryz.qmLess q W1 ⟨hb, 0, none⟩ v h1 hI1.box.cell; have hL2 := Tryz.qLess hI1 (i := m) (j := k) (by omega) (by omega); rw [hd2] at hL2; have HI1 : Hid (HQ 87 3 w0 W1 hb v R ∧ HSt hb wr v W1 v) := ⟨hI1, .of hg1⟩; clear hI1 hL qm1)
              | (go_at_call 156; refine Calls.mono hL2 ?_; rintro e W2 ⟨rfl, hg2⟩; have hI2 := HI1.out.1.grown hg2; have qm2 := fun q => Tryz.qmSwap q W2 ⟨hb, 0, none⟩ v h1 hI2.box.cell; have hSw := Tryz.qSwap hI2 (i := k) (j := m) (by omega) (by omega); have HI2 : Hid (HSt hb wr v W2 v) := HI1.out.2.trans (.of hg2); clear hI2 hL2)
              | (go_at_call 159; refine Calls.mono hSw ?_; rintro e W3 ⟨rfl, hI3, hS3⟩; have HI3 : Hid (HQ 87 3 w0 W3 hb v (swp R k m) ∧ HSt hb W2 v W3 v) := ⟨hI3, hS3⟩; clear hI3 hS3 hSw qm2))
            go_roundg (n - m)
            case measure => omega
            case rel =>
              refine ⟨m, swp R k m, rfl, by omega, .inr (by omega), by rw [swp_len]; omega, HI3.out.1, (HI.out.2.1.trans HI2.out).trans HI3.out.2, ?_⟩
              have q1 := HI.out.2.2.2.1
              have q2 := HI.out.2.2.2.2
              rw [← HI.out.2.2.1]
              conv => rhs; unfold downF
              rw [hkid.out, if_neg (by omega)]
              exact downF_more _ _ _ _ _ (by omega) (by omega)
          · have hd2 : decide (gz R m < gz R k) = false := decide_eq_false hl2
            go_wp2_with (first
              | (go_at_call 156; refine Calls.mono hL ?_; rintro e W1 ⟨rfl, hg1⟩; have hI1 := HI.out.1.grown hg1; have qm3 := fun q => Tryz.qmLess q W1 ⟨hb, 0, none⟩ v h1 hI1.box.cell; have hL2 := Tryz.qLess hI1 (i := m) (j := k) (by omega) (by omega); rw [hd2] at hL2; have HI1 : Hid (HQ 87 3 w0 W1 hb v R ∧ HSt hb wr v W1 v) := ⟨hI1, .of hg1⟩; clear hI1 hL qm1)
              | (go_at_call 156; refine Calls.mono hL2 ?_; rintro e W2 ⟨rfl, hg2⟩; have HI2 : Hid (HQ 87 3 w0 W2 hb v R ∧ HSt hb wr v W2 v) := ⟨HI1.out.1.grown hg2, HI1.out.2.trans (.of hg2)⟩; clear hL2))
            go_ret
            have : downF (n + 1) R k n = R := by
              unfold downF
              rw [hkid.out, if_pos (.inr (by omega))]
            refine ⟨⟨_, rfl⟩, ?_, HI.out.2.1.trans HI2.out.2⟩
            rw [← HI.out.2.2.1, this]
            exact HI2.out.1
      · have hdz : ¬((m2 : Int) < (n : Int)) := by omega
        have hkid : Hid (kid R k n = m) := by show kid R k n = m; unfold kid; rw [if_neg fun e => by omega]; omega
        clear hm hm2 hS hF
        have hL2 := Tryz.qLess hI (i := m) (j := k) (by omega) (by omega)
        clear hI
        by_cases hl2 : gz R m < gz R k
        · have hd2 : decide (gz R m < gz R k) = true := decide_eq_true hl2
          rw [hd2] at hL2
          go_wp2_with (first
            | (go_at_call 156; refine Calls.mono hL2 ?_; rintro e W2 ⟨rfl, hg2⟩; have hI2 := HI.out.1.grown hg2; have qm2 := fun q => Tryz.qmSwap q W2 ⟨hb, 0, none⟩ v h1 hI2.box.cell; have hSw := Tryz.qSwap hI2 (i := k) (j := m) (by omega) (by omega); have HI2 : Hid (HSt hb wr v W2 v) := .of hg2; clear hI2 hL2)
            | (go_at_call 159; refine Calls.mono hSw ?_; rintro e W3 ⟨rfl, hI3, hS3⟩; have HI3 : Hid (HQ 87 3 w0 W3 hb v (swp R k m) ∧ HSt hb W2 v W3 v) := ⟨hI3, hS3⟩; clear hI3 hS3 hSw qm2))
          go_roundg (n - m)
          case measure => omega
          case rel =>
            refine ⟨m, swp R k m, rfl, by omega, .inr (by omega), by rw [swp_len]; omega, HI3.out.1, (HI.out.2.1.trans HI2.out).trans HI3.out.2, ?_⟩
            have q1 := HI.out.2.2.2.1
            have q2 := HI.out.2.2.2.2
            rw [← HI.out.2.2.1]
            conv => rhs; unfold downF
            rw [hkid.out, if_neg (by omega)]
            exact downF_more _ _ _ _ _ (by omega) (by omega)
        · have hd2 : decide (gz R m < gz R k) = false := decide_eq_false hl2
          rw [hd2] at hL2
          go_wp2_with (first
            | (go_at_call 156; refine Calls.mono hL2 ?_; rintro e W2 ⟨rfl, hg2⟩; have HI2 : Hid (HQ 87 3 w0 W2 hb v R ∧ HSt hb wr v W2 v) := ⟨HI.out.1.grown hg2, .of hg2⟩; clear hL2))
          go_ret
          have : downF (n + 1) R k n = R := by
            unfold downF
            rw [hkid.out, if_pos (.inr (by omega))]
          refine ⟨⟨_, rfl⟩, ?_, HI.out.2.1.trans HI2.out.2⟩
          rw [← HI.out.2.2.1, this]
          exact HI2.out.1
end Go.Proofs

/-
  SUCCESSION: heap.Push and heap.Pop of the queue. Own work.
-/
namespace Go.Proofs
open Go Go.Pi Go.RowKit Go.Tp Go.Lib
set_option maxRecDepth 100000 in
set_option maxHeartbeats 4000000 in
theorem Tryz.hPush {w0 W : World} {hb : Nat} {v : Value} {Q : List Int} (h : HQ 87 3 w0 W hb v Q) (hq : Q.length ≤ 900) (x : Int) :
    Calls Tryz.prog 36 #[.iface 86 (.pointer (some ⟨hb, 0, none⟩)), .iface 3 (.int .i64 x)] W fun e W' => e = .returned (.tuple #[]) ∧ ∃ v', HQ 87 3 w0 W' hb v' (pushF Q x) ∧ HSt hb W v W' v' := by
  have mixed : Tryz.prog.follows .mixedOrders = true := by kernel_rfl
  have t4 := Tryz.underlying3; have a4 := Tryz.isAgg3
  have t7 := Tryz.underlying86
  have t8 := Tryz.underlying119
  have qm1 := fun q => Tryz.qmPush q W ⟨hb, 0, none⟩
  have hP := Tryz.qPush h (by omega) x
  have e1 : IntKind.i64.wrap ((((Q ++ [x]).length : Nat) : Int) - 1) = (Q.length : Int) := by rw [IntKind.wrap_i64, List.length_append, List.length_singleton]; omega
  have H0 : Hid (Q.length ≤ 900) := hq
  clear h
  generalize hQ1 : Q ++ [x] = Q1 at *
  have HQ1 : Hid (Q1 = Q ++ [x]) := hQ1.symm
  clear hQ1
  go_enter Tryz.func36, Tryz.ntmps36
  go_wp2_with (first
    | (go_at_call 158; refine Calls.mono hP ?_; rintro e W1 ⟨rfl, v1, hI1, hS1⟩; obtain ⟨a1, cap1, rfl⟩ := hI1.shape1; have qm2 := fun q => Tryz.qmLen q W1 ⟨hb, 0, none⟩ _ rfl hI1.box.cell; have HI1 : Hid (HQ 87 3 w0 W1 hb (.slice a1 Q1.length cap1) Q1 ∧ HSt hb W v W1 (.slice a1 Q1.length cap1)) := ⟨hI1, hS1⟩; clear hI1 hS1 hP)
    | (go_at_call 37; refine Calls.mono (Tryz.qLen W1 a1 Q1.length cap1) ?_; rintro e W2 ⟨rfl, hw2⟩; have HW2 : Hid (W2 = W1) := hw2; clear hw2)
    | (go_at_call 62; refine Calls.mono (Tryz.hUp (W := W2) (by rw [HW2.out]; exact HI1.out.1) (j := Q.length) (by rw [HQ1.out]; simp) (by rw [HQ1.out]; have := H0.out; simp; omega)) ?_; rintro e W3 ⟨rfl, hI3, hS3⟩; have HI3 : Hid (HQ 87 3 w0 W3 hb (.slice a1 Q1.length cap1) (upF (Q.length + 1) Q1 Q.length) ∧ HSt hb W2 (.slice a1 Q1.length cap1) W3 (.slice a1 Q1.length cap1)) := ⟨hI3, hS3⟩; clear hI3 hS3))
  go_end0
  have h2 := HI3.out.2
  rw [HW2.out] at h2
  have h1 := HI3.out.1
  rw [HQ1.out] at h1
  refine ⟨rfl, _, ?_, HI1.out.2.trans h2⟩
  rw [HQ1.out]
  exact h1
set_option maxRecDepth 100000 in
set_option maxHeartbeats 4000000 in
theorem Tryz.hPop {w0 W : World} {hb : Nat} {v : Value} {Q : List Int} (h : HQ 87 3 w0 W hb v Q) (hq0 : 0 < Q.length) (hq : Q.length ≤ 1000) :
    Calls Tryz.prog 38 #[.iface 86 (.pointer (some ⟨hb, 0, none⟩))] W fun e W' => e = .returned (.iface 3 (.int .i64 (gz Q 0))) ∧ ∃ v', HQ 87 3 w0 W' hb v' (popF Q) ∧ HSt hb W v W' v' := by
  have mixed : Tryz.prog.follows .mixedOrders = true := by kernel_rfl
  have t4 := Tryz.underlying3; have a4 := Tryz.isAgg3
  have t3 := Tryz.underlying4
  have t7 := Tryz.underlying86
  have t8 := Tryz.underlying119
  have t9 := Tryz.underlying20
  have hc := h.box.cell
  have h1 := h.one
  obtain ⟨a1, cap1, rfl⟩ := h.shape1
  have qm1 := fun q => Tryz.qmLen q W ⟨hb, 0, none⟩ _ rfl hc
  have qm2 := fun q => Tryz.qmSwap q W ⟨hb, 0, none⟩ _ rfl hc
  obtain ⟨n, hn⟩ : ∃ n, n = Q.length - 1 := ⟨_, rfl⟩
  have e1 : IntKind.i64.wrap ((Q.length : Int) - 1) = (n : Int) := by rw [IntKind.wrap_i64]; omega
  have hSw := Tryz.qSwap h (i := 0) (j := n) (by omega) (by omega)
  have HH : Hid (HQ 87 3 w0 W hb (.slice a1 Q.length cap1) Q ∧ n = Q.length - 1) := ⟨h, hn⟩
  have hnl : n < Q.length := by omega
  clear h hn
  go_enter Tryz.func38, Tryz.ntmps38
  go_wp2_with (first
    | (go_at_call 37; refine Calls.mono (Tryz.qLen W a1 Q.length cap1) ?_; rintro e W2 ⟨rfl, rfl⟩)
    | (go_at_call 159; refine Calls.mono hSw ?_; rintro e W3 ⟨rfl, hI3, hS3⟩; have HI3 : Hid (HQ 87 3 w0 W3 hb (.slice a1 Q.length cap1) (swp Q 0 n) ∧ HSt hb W2 (.slice a1 Q.length cap1) W3 (.slice a1 Q.length cap1)) := ⟨hI3, hS3⟩; clear hI3 hS3 hSw)
    | (go_at_call 63; refine Calls.mono (Tryz.hDown HI3.out.1 (n := n) (by rw [swp_len]; omega) (by rw [swp_len]; omega)) ?_; rintro e W4 ⟨⟨b, rfl⟩, hI4, hS4⟩; have qm5 := fun q => Tryz.qmPop q W4 ⟨hb, 0, none⟩; have HI4 : Hid (HQ 87 3 w0 W4 hb (.slice a1 Q.length cap1) (popQ Q) ∧ HSt hb W3 (.slice a1 Q.length cap1) W4 (.slice a1 Q.length cap1)) := ⟨by have hh := hI4; rw [HH.out.2, show Q.length - 1 + 1 = Q.length by omega] at hh; exact hh, hS4⟩; clear hI4 hS4)
    | (go_at_call 157; refine Calls.mono (Tryz.qPop HI4.out.1 (by rw [popQ_len hq0]; exact hq0) (by rw [popQ_len hq0]; exact hq)) ?_; rw [popQ_len hq0, popQ_last hq0]; rintro e W5 ⟨rfl, v5, hI5, hS5⟩; have HI5 : Hid (HQ 87 3 w0 W5 hb v5 (popF Q) ∧ HSt hb W4 (.slice a1 Q.length cap1) W5 v5) := ⟨hI5, hS5⟩; clear hI5 hS5))
  go_ret
  exact ⟨rfl, v5, HI5.out.1, (HI3.out.2.trans HI4.out.2).trans HI5.out.2⟩
end Go.Proofs

/-
  SUCCESSION: the cells of a graph that was handed in; the state of sorted in memory. Own work.
-/
namespace Go.Tp
open Go Go.Pi Go.RowKit
theorem sl_get {S : Nat → Nat → Prop} {W : World} {v : Value} {n : Nat} {ds : List D} (h : Rep S W (.sl n ds) v) (hd : D.un ∉ ds) : ∃ ad cap, v = .slice ad n cap ∧ ∀ (j : Nat) (d : D), ds[j]? = some d → ∃ b off u, ad = some ⟨b, off, none⟩ ∧ S b (off + j) ∧ W.cell? ⟨b, off + j, none⟩ = some u ∧ Rep S W d u := by
  generalize hq : D.sl n ds = q at h
  cases h with
  | sl0 a cap hc => cases hq; exact ⟨a, cap, rfl, fun j d hj => by simp at hj⟩
  | slN => cases hq; exact absurd (List.mem_singleton.2 rfl) hd
  | sl n' ds' b off cap vs hl h1 hn hc hr h =>
    cases hq
    refine ⟨_, cap, rfl, fun j d hj => ?_⟩
    have hjl := (List.getElem?_eq_some_iff.1 hj).1
    have hv : vs[j]? = some (vs[j]'(by omega)) := List.getElem?_eq_getElem (by omega)
    exact ⟨b, off, _, rfl, (hr j _ hv).1, (hr j _ hv).2, h j d _ hj hv⟩
  | _ => cases hq
theorem ars_get {l : List Ar} {j : Nat} {x : Ar} (h : l[j]? = some x) : (arsD l)[j * 3]? = some (.int .i64 x.i) ∧ (arsD l)[j * 3 + 1]? = some (.int .i64 x.a) ∧ (arsD l)[j * 3 + 2]? = some (.int .i64 x.b) := by
  induction l generalizing j with
  | nil => simp at h
  | cons y l ih =>
    cases j with
    | zero => simp at h; subst h; exact ⟨rfl, rfl, rfl⟩
    | succ j =>
      have := ih (by simpa using h)
      have e : arsD (y :: l) = .int .i64 y.i :: .int .i64 y.a :: .int .i64 y.b :: arsD l := rfl
      rw [e]
      rw [show (j + 1) * 3 = j * 3 + 1 + 1 + 1 by omega, show j * 3 + 1 + 1 + 1 + 1 = j * 3 + 1 + 1 + 1 + 1 by rfl]
      simpa using this
theorem ars_un (l : List Ar) : D.un ∉ arsD l := by
  induction l with
  | nil => intro h; cases h
  | cons x l ih =>
    intro h
    have : D.un ∈ D.int .i64 x.i :: .int .i64 x.a :: .int .i64 x.b :: arsD l := h
    simp at this
    exact ih this
theorem ars_cells {S : Nat → Nat → Prop} {W : World} {v : Value} {l : List Ar} (h : Rep S W (.sl l.length (arsD l)) v) : ∃ ad cap, v = .slice ad l.length cap ∧ ∀ j x, l[j]? = some x → ∃ b off, ad = some ⟨b, off, none⟩ ∧ S b (off + j * 3) ∧ W.cell? ⟨b, off + j * 3, none⟩ = some (.int .i64 x.i) ∧ W.cell? ⟨b, off + j * 3 + 1, none⟩ = some (.int .i64 x.a) ∧ W.cell? ⟨b, off + j * 3 + 2, none⟩ = some (.int .i64 x.b) := by
  obtain ⟨ad, cap, rfl, hc⟩ := sl_get h (ars_un l)
  refine ⟨ad, cap, rfl, fun j x hj => ?_⟩
  obtain ⟨g1, g2, g3⟩ := ars_get hj
  obtain ⟨b, off, u, e1, e2, e3, e4⟩ := hc _ _ g1
  obtain ⟨b', off', u', e1', e2', e3', e4'⟩ := hc _ _ g2
  obtain ⟨b2, off2, u2, e12, e22, e32, e42⟩ := hc _ _ g3
  rw [e1] at e1' e12
  cases e1'; cases e12
  cases e4; cases e4'; cases e42
  exact ⟨b, off, e1, e2, e3, e3', e32⟩
/-- a graph that was handed in -/
theorem g_cells {S : Nat → Nat → Prop} {W : World} {v : Value} {us : List (List UInt8)} {arcs : List Ar} (h : Rep S W (gD us arcs) v) :
    ∃ b off vn vm va vx, v = .pointer (some ⟨b, off, none⟩) ∧ S b off ∧ W.cell? ⟨b, off, none⟩ = some vn ∧ W.cell? ⟨b, off + 1, none⟩ = some vm ∧ W.cell? ⟨b, off + 2, none⟩ = some va ∧ W.cell? ⟨b, off + 3, none⟩ = some vx ∧ Rep S W (strsD us) vn ∧ Rep S W (.sl arcs.length (arsD arcs)) va ∧ Rep S W (.sl us.length (nxD us.length arcs)) vx := by
  unfold gD at h
  generalize hq : D.pt _ = q at h
  cases h with
  | pt ds b off vs hl h1 hr h =>
    cases hq
    have e0 : vs[0]? = some (vs[0]'(by simp at hl; omega)) := List.getElem?_eq_getElem _
    have e1 : vs[1]? = some (vs[1]'(by simp at hl; omega)) := List.getElem?_eq_getElem _
    have e2 : vs[2]? = some (vs[2]'(by simp at hl; omega)) := List.getElem?_eq_getElem _
    have e3 : vs[3]? = some (vs[3]'(by simp at hl; omega)) := List.getElem?_eq_getElem _
    exact ⟨b, off, _, _, _, _, rfl, (hr 0 _ e0).1, (hr 0 _ e0).2, (hr 1 _ e1).2, (hr 2 _ e2).2, (hr 3 _ e3).2, h 0 _ _ rfl e0, h 2 _ _ rfl e2, h 3 _ _ rfl e3⟩
  | _ => cases hq
theorem nx_cells {S : Nat → Nat → Prop} {W : World} {v : Value} {n : Nat} {arcs : List Ar} (h : Rep S W (.sl n (nxD n arcs)) v) : ∃ ad cap, v = .slice ad n cap ∧ ∀ j, j < n → ∃ b off u, ad = some ⟨b, off, none⟩ ∧ S b (off + j) ∧ W.cell? ⟨b, off + j, none⟩ = some u ∧ Rep S W (.sl (nxt arcs j).length (arsD (nxt arcs j))) u := by
  obtain ⟨ad, cap, rfl, hc⟩ := sl_get h (by unfold nxD; intro e; obtain ⟨x, _, hx⟩ := List.mem_map.1 e; cases hx)
  refine ⟨ad, cap, rfl, fun j hj => hc j _ ?_⟩
  unfold nxD
  rw [List.getElem?_map, List.getElem?_range hj]; rfl
/-- sorted's state in memory -/
structure SrI (eQ eI : Nat) (W wr : World) (hb : Nat) (v vc vo : Value) (q c o : List Int) : Prop where
  q : HQ eQ eI W wr hb v q
  cn : wr.ownsRow W.heap.size eI 1 vc c.length (intsV c)
  ou : wr.ownsRow W.heap.size eI 1 vo o.length (intsV o)
  cq : ∀ g, vc.ownBlock = some g → v.ownBlock ≠ some g
  co : ∀ g, vc.ownBlock = some g → vo.ownBlock ≠ some g
  qo : ∀ g, v.ownBlock = some g → vo.ownBlock ≠ some g
namespace SrI
variable {eQ eI : Nat} {W wr w' : World} {hb : Nat} {v vc vo : Value} {q c o : List Int}
theorem kept (h : SrI eQ eI W wr hb v vc vo q c o) (g : GrX (fun _ => False) wr w') : SrI eQ eI W w' hb v vc vo q c o :=
  ⟨h.q.grown g, g.own h.cn fun _ _ e => e, g.own h.ou fun _ _ e => e, h.cq, h.co, h.qo⟩
theorem heap (h : SrI eQ eI W wr hb v vc vo q c o) (hne : eI ≠ eQ) {v' : Value} {q' : List Int} (hq : HQ eQ eI W w' hb v' q') (hs : HSt hb wr v w' v') : SrI eQ eI W w' hb v' vc vo q' c o := by
  have hbc : vc.ownBlock ≠ some hb := h.q.box.ne_own h.cn hne
  have hbo : vo.ownBlock ≠ some hb := h.q.box.ne_own h.ou hne
  refine ⟨hq, hs.1.own h.cn fun g hg e => e.elim (fun e => h.cq g hg e.symm) (fun e => hbc (by rw [hg, e])), hs.1.own h.ou fun g hg e => e.elim (fun e => h.qo g e.symm hg) (fun e => hbo (by rw [hg, e])), fun g hg e => ?_, h.co, fun g hg e => ?_⟩
  · rcases hs.2 with h2 | h2
    · exact h.cq g hg (h2 ▸ e)
    · have := h2 g e; have := (h.cn.lt g hg).2; omega
  · rcases hs.2 with h2 | h2
    · exact h.qo g (h2 ▸ hg) e
    · have := h2 g hg; have := (h.ou.lt g e).2; omega
theorem cnt {gc cap n : Nat} (h : SrI eQ eI W wr hb v (.slice (some ⟨gc, 0, none⟩) n cap) vo q c o) (hn : c.length = n) (hne : eI ≠ eQ) (j : Nat) (x : Int) : SrI eQ eI W (wr.setCell ⟨gc, j, none⟩ (.int .i64 x)) hb v (.slice (some ⟨gc, 0, none⟩) n cap) vo q (c.set j x) o := by
  subst hn
  obtain ⟨o1, g1⟩ := h.cn.stored j (.int .i64 x)
  have gx : GrX (fun b => some b = (Value.slice (some ⟨gc, 0, none⟩) c.length cap).ownBlock) wr (wr.setCell ⟨gc, j, none⟩ (.int .i64 x)) := .ofGrown g1
  refine ⟨h.q.kept gx (fun hx => ?_) (fun g hg hx => h.cq g hx.symm hg) (fun b hx => (h.cn.lt b hx.symm).1), ?_, gx.own h.ou fun g hg hx => h.co g hx.symm hg, h.cq, h.co, h.qo⟩
  · exact h.q.box.ne_own h.cn hne hx.symm
  · rw [List.length_set, ← intsV_set]; exact o1
theorem cat {gc cap n : Nat} (h : SrI eQ eI W wr hb v (.slice (some ⟨gc, 0, none⟩) n cap) vo q c o) (hn : c.length = n) {j : Nat} (hj : j < n) : wr.cell? ⟨gc, j, none⟩ = some (.int .i64 (gz c j)) := by
  subst hn
  rw [h.cn.cellAt j (by omega), List.getElem?_map, List.getElem?_eq_getElem hj, Option.map_some, getD_gz' hj]
theorem out (h : SrI eQ eI W wr hb v vc vo q c o) (hne : eI ≠ eQ) {Wx W1 : World} {ob : Obj} {x : Int} {g1 c1 : Nat} (hw : Wx = wr.alloc ob) (hg : Wx.grownBy W1 vo.ownBlock) (hown : W1.ownsRow W.heap.size eI 1 (.slice (some ⟨g1, 0, none⟩) (o.length + 1) c1) (o.length + 1) (intsV o ++ [.int .i64 x])) (hl : vo.ownBlock = some g1 ∨ g1 = Wx.heap.size) :
    SrI eQ eI W W1 hb v vc (.slice (some ⟨g1, 0, none⟩) (o.length + 1) c1) q c (o ++ [x]) ∧ GrX (fun b => some b = vo.ownBlock) wr W1 := by
  subst hw
  have gx : GrX (fun b => some b = vo.ownBlock) wr W1 := (GrX.alloc wr ob).trans (GrX.ofGrown hg) fun b hb => .inl hb
  have hf : ∀ g, some g1 = some g → vo.ownBlock = some g ∨ wr.heap.size ≤ g := fun g hg => by
    cases hg
    rcases hl with hl | hl
    · exact .inl hl
    · have : wr.heap.size ≤ (wr.alloc ob).heap.size := by simp
      right; omega
  refine ⟨⟨h.q.kept gx (fun e => h.q.box.ne_own h.ou hne e.symm) (fun g hg e => h.qo g hg e.symm) (fun b e => (h.ou.lt b e.symm).1), gx.own h.cn fun g hg e => h.co g hg e.symm, ?_, h.cq, fun g hg e => ?_, fun g hg e => ?_⟩, gx⟩
  · rw [List.length_append, List.length_singleton, show intsV (o ++ [x]) = intsV o ++ [.int .i64 x] by simp [intsV]]
    exact hown
  · rcases hf g e with h2 | h2
    · exact h.co g hg h2
    · have := (h.cn.lt g hg).2; omega
  · rcases hf g e with h2 | h2
    · exact h.qo g hg h2
    · have := (h.q.own.lt g hg).2; omega
end SrI
end Go.Tp

/-
  SUCCESSION: sorted, in the plain walk. Own work.
-/
namespace Go.Tp
open Go Go.Pi Go.RowKit
theorem reps_ints {S : Nat → Nat → Prop} {w : World} {Q : List Int} {vs : List Value} (h : Reps S w (ints .i64 Q) vs) : vs = intsV Q := by
  obtain ⟨hl, h⟩ := h
  apply List.ext_getElem?
  intro i
  have hl' : Q.length = vs.length := by simpa [ints] using hl
  by_cases hi : i < Q.length
  · have h1 : (ints .i64 Q)[i]? = some (.int .i64 Q[i]) := by simp [ints, hi]
    have h2 : vs[i]? = some (vs[i]'(by omega)) := List.getElem?_eq_getElem (by omega)
    have h3 := h i _ _ h1 h2
    rw [h2, List.getElem?_map, List.getElem?_eq_getElem hi]
    generalize vs[i]'(by omega) = x at *
    cases h3; rfl
  · rw [List.getElem?_eq_none (by omega), List.getElem?_eq_none (by simp; omega)]
theorem own_ints {P : Program} {S : Nat → Nat → Prop} {w w' : World} {e : TypeId} {n : Nat} {Q : List Int} {v : Value} (hc : P.cellsOf e = 1) (hn : Q.length = n) (h : Res P S w w' (.own true e n (ints .i64 Q)) v) : w'.ownsRow w.heap.size e 1 v n (intsV Q) := by
  obtain ⟨ob, h1, h2⟩ := h
  simp only [OwnR] at h2
  refine ⟨by simp [hn], ?_⟩
  rcases h2 with ⟨_, rfl, h3, _⟩ | ⟨b, cap, arr, rfl, rfl, h3, h4, h5, h6, h7, h8, _⟩
  · exact .inl ⟨rfl, h3⟩
  · rw [hc] at h6 h8
    exact .inr ⟨b, cap, arr, rfl, (h1 b rfl).1, h3, h4, h5, h6, reps_ints h8⟩
theorem rep_ints {W : World} {S : Nat → Nat → Prop} {base e n : Nat} {v : Value} {Q : List Int} (h : W.ownsRow base e 1 v n (intsV Q)) (hS : ∀ b j, base ≤ b → b < W.heap.size → S b j) : Rep S W (.sl n (ints .i64 Q)) v := by
  refine rep_ownG h (by simp [ints]) (fun d hd => ?_) (fun i d u hd hu => ?_) hS
  · obtain ⟨x, _, rfl⟩ := List.mem_map.1 hd
    rfl
  · unfold ints at hd
    rw [List.getElem?_map] at hd hu
    cases hx : Q[i]? with
    | none => rw [hx] at hd; cases hd
    | some y => rw [hx] at hd hu; cases hd; cases hu; exact .int _ _
theorem rep_tup2 {W : World} {S : Nat → Nat → Prop} {d1 d2 : D} {v1 v2 : Value} (h1 : Rep S W d1 v1) (h2 : Rep S W d2 v2) : Rep S W (.tup [d1, d2]) (.tuple #[v1, v2]) :=
  .tup [d1, d2] [v1, v2] rfl fun i d v hd hv => by
    match i with
    | 0 => cases hd; cases hv; exact h1
    | 1 => cases hd; cases hv; exact h2
    | i + 2 => simp at hd
theorem filter_nxt (arcs : List Ar) (i : Nat) {z : Int} (h : z = i) : (arcs.filter fun y => (y.a : Int) == z) = nxt arcs i := by
  subst h
  unfold nxt
  apply List.filter_congr
  intro x _
  rw [Bool.eq_iff_iff, beq_iff_eq, beq_iff_eq]
  omega
end Go.Tp
namespace Go.Proofs
open Go Go.Pi Go.RowKit Go.Tp Go.Lib
set_option maxRecDepth 100000 in
set_option maxHeartbeats 16000000 in
theorem Tryz.ssorted (us : List (List UInt8)) (arcs : List Ar) (hu : us.length ≤ 60) (hl : arcs.length ≤ 200) (ha : ∀ x ∈ arcs, ArOk us.length x ∧ x.i ≤ 200) :
    Con Tryz.prog Tryz.L 22 [gD us arcs] (.tup [.sl (srtF us.length arcs).length (ints .i64 (srtF us.length arcs)), .bool (decide ((srtF us.length arcs).length = us.length))]) := by
  have mixed : Tryz.prog.follows .mixedOrders = true := by kernel_rfl
  have t1 := Tryz.underlying30
  have t2 := Tryz.underlying26; have a2 := Tryz.isAgg26; have z2 := Tryz.sizeOf26; have v2 := Tryz.zeroValue26; have u2 := run_underlying Tryz.underlying26
  have t3 := Tryz.underlying4; have a3 := Tryz.isAgg4; have z3 := Tryz.sizeOf4; have v3 := Tryz.zeroValue4; have u3 := run_underlying Tryz.underlying4
  have t4 := Tryz.underlying3; have a4 := Tryz.isAgg3; have z4 := Tryz.sizeOf3; have v4 := Tryz.zeroValue3; have u4 := run_underlying Tryz.underlying3
  have t6 := Tryz.underlying77
  have t7 := Tryz.underlying79; have a7 := Tryz.isAgg79; have z7 := Tryz.sizeOf79; have v7 := Tryz.zeroValue79; have u7 := run_underlying Tryz.underlying79
  have t8 := Tryz.underlying74; have a8 := Tryz.isAgg74
  have t9 := Tryz.underlying75; have a9 := Tryz.isAgg75
  have t11 := Tryz.underlying44
  have t12 := Tryz.underlying87; have a12 := Tryz.isAgg87; have z12 := Tryz.sizeOf87; have v12 := Tryz.zeroValue87; have u12 := run_underlying Tryz.underlying87
  have t13 := Tryz.underlying86
  have t14 := Tryz.underlying119
  have hip : (Tryz.prog.info? 3).map (fun i => (i.zero, i.size, i.bytes)) = some (some (.int .i64 0), 1, 8) := by kernel_rfl
  obtain ⟨ip, hip1, hip2, hip3, hip4⟩ := info_parts hip
  have qa : ∀ (w : World) (x : Int), (Instr.typeAssert (.iface 3 (.int .i64 x)) 20 3 false).run Tryz.prog w = .ok (.int .i64 x) w := fun w x => by kernel_rfl
  have ha' : ∀ x ∈ arcs, ArOk us.length x := fun x hx => (ha x hx).1
  refine ⟨⟨by kernel_rfl, rfl⟩, fun S W vs hS hL hrep => ?_⟩
  have cb := (Tryz.sbefore us arcs hu hl ha).2 S W vs hS hL hrep
  obtain ⟨va, r1, rfl, hra, t1'⟩ := hrep.uncons
  obtain rfl : r1 = [] := List.length_eq_zero_iff.1 t1'.1.symm
  clear t1' hrep
  obtain ⟨pb, poff, vn, vm, vA, vx, rfl, s0, e0, _, _, e3, hrn, _, hrx⟩ := g_cells hra
  obtain ⟨adn, capn, rfl, _⟩ := str_cells hrn
  obtain ⟨adx, capx, rfl, HX0⟩ := nx_cells hrx
  have HX : Hid (∀ j, j < us.length → ∃ b off adj capj, adx = some ⟨b, off, none⟩ ∧ b < W.heap.size ∧ W.cell? ⟨b, off + j, none⟩ = some (.slice adj (nxt arcs j).length capj) ∧ ∀ k x, (nxt arcs j)[k]? = some x → ∃ b2 off2, adj = some ⟨b2, off2, none⟩ ∧ b2 < W.heap.size ∧ W.cell? ⟨b2, off2 + k * 3, none⟩ = some (.int .i64 x.i) ∧ W.cell? ⟨b2, off2 + k * 3 + 1, none⟩ = some (.int .i64 x.a) ∧ W.cell? ⟨b2, off2 + k * 3 + 2, none⟩ = some (.int .i64 x.b)) := by
    intro j hj
    obtain ⟨b, off, u, h1, h2, h3, h4⟩ := HX0 j hj
    obtain ⟨adj, capj, rfl, h5⟩ := ars_cells h4
    refine ⟨b, off, adj, capj, h1, hS _ _ h2, h3, fun k x hk => ?_⟩
    obtain ⟨b2, off2, g1, g2, g3⟩ := h5 k x hk
    exact ⟨b2, off2, g1, hS _ _ g2, g3⟩
  have l0 := hS _ _ s0
  have HN : Hid (Rep S W (gD us arcs) (.pointer (some ⟨pb, poff, none⟩))) := hra
  clear hra hrn hrx HX0 s0
  have HA : Hid (∀ x ∈ arcs, ArOk us.length x) := ha'
  clear ha'
  show Calls _ _ #[.pointer (some ⟨pb, poff, none⟩)] _ _
  go_enter Tryz.func22, Tryz.ntmps22
  have hn0 := Nat.zero_le us.length
  go_wp2_with (go_at_call 35; refine Calls.mono cb ?_; rintro e W1 ⟨vc, rfl, hb1, hr1⟩; have HC1 := own_ints (n := us.length) (by kernel_rfl) (bef_len HA.out) hr1; obtain ⟨ac, cc, rfl⟩ := own_shape1 HC1; have HC : Hid (W1.ownsRow W.heap.size 3 1 (.slice ac us.length cc) us.length (intsV (befF us.length arcs)) ∧ Below W.heap.size W W1 ∧ (befF us.length arcs).length = us.length) := ⟨HC1, hb1, bef_len HA.out⟩; clear HC1 hb1 hr1 cb)
  obtain ⟨c, hc⟩ : ∃ c, c = befF us.length arcs := ⟨_, rfl⟩
  have HS0 : Hid (SrI 87 3 W ((W1.alloc (.cells #[] 3)).alloc (.cells #[.slice (some ⟨W1.heap.size, 0, none⟩) 0 0] 87)) (W1.heap.size + 1) (.slice (some ⟨W1.heap.size, 0, none⟩) 0 0) (.slice ac us.length cc) (.slice none 0 0) [] c []) := by
    obtain ⟨h1, h2, h3⟩ := HC.out
    rw [← hc] at h1 h3
    have g1 : GrX (fun _ => False) W1 (W1.alloc (.cells #[] 3)) := .alloc _ _
    have g2 : GrX (fun _ => False) (W1.alloc (.cells #[] 3)) ((W1.alloc (.cells #[] 3)).alloc (.cells #[.slice (some ⟨W1.heap.size, 0, none⟩) 0 0] 87)) := .alloc _ _
    have b1 := heap_alloc_new W1 (.cells #[] 3)
    have b2 := heap_alloc_new (W1.alloc (.cells #[] 3)) (.cells #[.slice (some ⟨W1.heap.size, 0, none⟩) 0 0] 87)
    rw [World.size_alloc] at b2
    refine ⟨⟨g2.below (g1.below h2 (fun _ e => e.elim) h2.size) (fun _ e => e.elim) (Nat.le_trans h2.size g1.size), Nat.le_trans h2.size (Nat.le_succ _), b2, ?_⟩, ?_, ?_, ?_, ?_, ?_⟩
    · refine ⟨rfl, .inr ⟨W1.heap.size, 0, #[], rfl, h2.size, (g2.block _ (by simp) id).trans b1, Nat.le_refl _, by decide, rfl, rfl⟩⟩
    · rw [h3]; exact g2.own (g1.own h1 fun _ _ e => e) fun _ _ e => e
    · exact ⟨rfl, .inl ⟨rfl, rfl⟩⟩
    · intro g hg e
      have := (h1.lt g hg).2
      have e2 : W1.heap.size = g := by simpa [Value.ownBlock] using e
      omega
    · intro g hg e; simp [Value.ownBlock] at e
    · intro g hg e; simp [Value.ownBlock] at e
  go_wp2
  go_loopg [18] us.length (fun gg s18 wr => ∃ (i : Nat) (v : Value), s18 = .int .i64 i ∧ i ≤ us.length ∧ us.length ≤ gg + i ∧ SrI 87 3 W wr (W1.heap.size + 1) v (.slice ac us.length cc) (.slice none 0 0) (q0K c i) c [])
  case atStart => exact ⟨0, _, rfl, by omega, by omega, HS0.out⟩
  case round =>
    clear HS0
    obtain ⟨i, v, rfl, hi, hgi, hI⟩ := hrel
    have hcl : c.length = us.length := by rw [hc]; exact HC.out.2.2
    by_cases hin : i < us.length
    · have hiz : (i : Int) < (us.length : Int) := by omega
      obtain ⟨gc, rfl⟩ : ∃ gc, ac = some ⟨gc, 0, none⟩ := by
        rcases hI.cn.2 with ⟨h1, h2⟩ | ⟨g, cap, cur, h1, _⟩
        · omega
        · exact ⟨g, (Value.slice.inj h1).1⟩
      have d1 := hI.cat hcl hin
      have hql := (q0K_ok c i).2.2
      have hP := Tryz.hPush hI.q (by omega) (i : Int)
      have HI : Hid (SrI 87 3 W wr (W1.heap.size + 1) v (.slice (some ⟨gc, 0, none⟩) us.length cc) (.slice none 0 0) (q0K c i) c [] ∧ c = befF us.length arcs) := ⟨hI, hc⟩
      clear hI hc
      by_cases hz : gz c i = 0
      · rw [hz] at d1
        have HZ : Hid (gz c i = 0) := hz
        clear hz
        go_wp2_with (go_at_call 36; refine Calls.mono hP ?_; rintro e W2 ⟨rfl, v2, hq2, hs2⟩; have HQ2 : Hid (HQ 87 3 W W2 (W1.heap.size + 1) v2 (pushF (q0K c i) i) ∧ HSt (W1.heap.size + 1) wr v W2 v2) := ⟨hq2, hs2⟩; clear hq2 hs2 hP)
        go_roundg (us.length - (i + 1))
        case measure => omega
        case rel =>
          refine ⟨i + 1, v2, by go_num, by omega, by omega, ?_⟩
          rw [q0K_succ, if_pos HZ.out]
          exact HI.out.1.heap (by decide) HQ2.out.1 HQ2.out.2
      · have hzb : (gz c i == 0) = false := by simpa using hz
        have HZ : Hid (¬gz c i = 0) := hz
        go_wp2
        go_roundg (us.length - (i + 1))
        case measure => omega
        case rel =>
          refine ⟨i + 1, v, by go_num, by omega, by omega, ?_⟩
          rw [q0K_succ, if_neg HZ.out]
          exact HI.out.1
    · obtain rfl : i = us.length := by omega
      have HK0 : Hid (c.length = us.length ∧ True ∧ c = befF us.length arcs) := ⟨hcl, trivial, hc⟩
      have HSI : Hid (SrI 87 3 W wr (W1.heap.size + 1) v (.slice ac us.length cc) (.slice none 0 0) (q0K c us.length) c []) := hI
      have HKI : Hid (KI us.length arcs c (q0K c us.length) [] []) := by rw [hc]; exact KI.start HA.out
      clear hI hcl hc
      go_wp2
      go_loopg [8] us.length (fun gg s8 wr2 => ∃ (s : KS) (v vo : Value), s8 = vo ∧ us.length ≤ gg + s.o.length ∧ SrI 87 3 W wr2 (W1.heap.size + 1) v (.slice ac us.length cc) vo s.q s.c s.o ∧ KI us.length arcs s.c s.q s.o [] ∧ kloop arcs (us.length + 1) s = kloop arcs (us.length + 1) (s0K us.length arcs))
      case atStart => exact ⟨s0K us.length arcs, v, .slice none 0 0, rfl, by omega, by have := HSI.out; have e := HK0.out.2.2; rw [e] at this; exact this, by have := HKI.out; have e := HK0.out.2.2; rw [e] at this; exact this, rfl⟩
      case round =>
        clear HSI HKI
        obtain ⟨s, v, vo, hs8, hgo, hI, hK, hF⟩ := hrel
        have hbd := hK.bound
        obtain ⟨ao, co, rfl⟩ := own_shape1 hI.ou
        subst hs8
        obtain ⟨av, cv, rfl⟩ := hI.q.shape1
        have hbc := hI.q.box.cell
        have hqL := Tryz.qLen wr av s.q.length cv
        obtain ⟨q, hq⟩ : ∃ q, q = s.q.length := ⟨_, rfl⟩
        have HI : Hid (SrI 87 3 W wr (W1.heap.size + 1) (.slice av s.q.length cv) (.slice ac us.length cc) (.slice ao s.o.length co) s.q s.c s.o ∧ KI us.length arcs s.c s.q s.o [] ∧ kloop arcs (us.length + 1) s = kloop arcs (us.length + 1) (s0K us.length arcs) ∧ q = s.q.length) := ⟨hI, hK, hF, hq⟩
        by_cases hq0 : s.q.length = 0
        · have hq0z : ¬((s.q.length : Int) > 0) := by omega
          have hq0y : ¬(0 < s.q.length) := by omega
          have e0' := (hI.q.bel.cell (p := ⟨pb, poff, none⟩) l0).trans e0
          have l0' := Nat.lt_of_lt_of_le l0 hI.q.bel.size
          have HQ0 : Hid (s.q.length = 0) := hq0
          clear hI hK hF hq hq0
          go_wp2_with (go_at_call 37; refine Calls.mono hqL ?_; rintro e W2 ⟨rfl, rfl⟩)
          go_region_held3 (fun w' => w'.cell? ⟨pb, poff, none⟩ = some (.slice adn us.length capn)) (go_keep) (fail)
          go_wp2
          go_ret2
          obtain ⟨hI, hK, hF, _⟩ := HI.out
          have he : srtF us.length arcs = s.o := by
            unfold srtF
            rw [← hF, kloop_end HQ0.out]
          rw [he]
          refine ⟨_, rfl, ⟨hI.q.bel.os, hI.q.bel.tape, hI.q.bel.output, hI.q.bel.size, hI.q.bel.block⟩, ?_⟩
          have hb : ((s.o.length : Int) == (us.length : Int)) = decide (s.o.length = us.length) := by
            rw [Bool.eq_iff_iff, beq_iff_eq, decide_eq_true_eq]; omega
          rw [hb]
          exact rep_tup2 (rep_ints hI.ou.drew fun b j h1 h2 => .inr ⟨h1, h2⟩) (.bool _)
        · have hq0y : 0 < s.q.length := by omega
          have hq0z : (s.q.length : Int) > 0 := by omega
          have hm : gz s.q 0 ∈ s.q := by rw [← getD_gz' hq0y]; exact List.getElem_mem _
          obtain ⟨x, hx, hgx⟩ := hK.bd _ (List.mem_append_right _ hm)
          have hP := Tryz.hPop hI.q hq0y (by omega)
          rw [hgx] at hP
          have hxz : (x : Int) < (us.length : Int) := by omega
          obtain ⟨bx, ox, adj, capj, rfl, lx, ex, HR0⟩ := HX.out x hx
          have HR : Hid (∀ k y, (nxt arcs x)[k]? = some y → ∃ b2 off2, adj = some ⟨b2, off2, none⟩ ∧ b2 < W.heap.size ∧ W.cell? ⟨b2, off2 + k * 3, none⟩ = some (.int .i64 y.i) ∧ W.cell? ⟨b2, off2 + k * 3 + 1, none⟩ = some (.int .i64 y.a) ∧ W.cell? ⟨b2, off2 + k * 3 + 2, none⟩ = some (.int .i64 y.b)) := HR0
          have HG : Hid (gz s.q 0 = x) := hgx
          have hol : s.o.length ≤ 60 := by omega
          have hrl : (nxt arcs x).length ≤ 200 := Nat.le_trans (List.length_filter_le ..) hl
          have hsz := hI.q.bel.size
          clear hI hK hF hq HR0 hm hgx
          go_wp2_with (first
            | (go_at_call 37; refine Calls.mono hqL ?_; rintro e W2 ⟨rfl, rfl⟩; clear hqL)
            | (go_at_call 38; refine Calls.mono hP ?_; rintro e W3 ⟨rfl, v3, hq3, hs3⟩; have hI3 := HI.out.1.heap (by decide) hq3 hs3; have HI3 : Hid (SrI 87 3 W W3 (W1.heap.size + 1) v3 (.slice ac us.length cc) (.slice ao s.o.length co) (popF s.q) s.c s.o) := hI3; have hsz3 := hI3.q.bel.size; clear hq3 hs3 hI3 hP)
            | (at_builtin; refine wpList_append_lies _ rfl _ _ 26 rfl W.heap.size 3 ip (.int .i64 0) 1 8 Tryz.underlying26 hip1 hip2 hip3 hip4 rfl (by decide) (.slice ao s.o.length co) s.o.length (intsV s.o) rfl (HI3.out.ou.alloc _) ⟨W3.heap.size, 0, none⟩ 1 1 [.int .i64 x] rfl rfl (World.news_of_block (heap_alloc_new W3 _)) (by simp [Value.oneCell']) (by decide) (by unfold maxLen; omega) (by omega) (by simp; omega) _ rfl ?_; intro g4 c4 w4 ho4 hg4 hl4 hlt4; obtain ⟨hI4, _⟩ := HI3.out.out (by decide) rfl hg4 ho4 hl4; have HI4 : Hid (SrI 87 3 W w4 (W1.heap.size + 1) v3 (.slice ac us.length cc) (.slice (some ⟨g4, 0, none⟩) (s.o.length + 1) c4) (popF s.q) s.c (s.o ++ [(x : Int)])) := hI4; have d3 := (hI4.q.bel.cell (p := ⟨pb, poff + 3, none⟩) l0).trans e3; have d4 := (hI4.q.bel.cell (p := ⟨bx, ox + x, none⟩) lx).trans ex; have l5 := Nat.lt_of_lt_of_le l0 hI4.q.bel.size; have l6 := Nat.lt_of_lt_of_le lx hI4.q.bel.size; clear hI4 ho4 hg4 hl4))
          obtain ⟨r, hr⟩ : ∃ r, r = nxt arcs x := ⟨_, rfl⟩
          have HRm : Hid (∀ y ∈ r, ArOk us.length y) := by
            rw [hr]; exact fun y hy => HA.out y (List.mem_filter.1 hy).1
          have hrl' : r.length ≤ 200 := by rw [hr]; exact hrl
          have hrn := Nat.zero_le r.length
          have HK4 : Hid (KI us.length arcs s.c (popF s.q) (s.o ++ [(x : Int)]) r) := by
            have := HI.out.2.1.pop hq0y
            rw [filter_nxt arcs x HG.out, HG.out] at this
            rw [hr]; exact this
          have HR5 : Hid (∀ k y, r[k]? = some y → ∃ b2 off2, adj = some ⟨b2, off2, none⟩ ∧ b2 < W.heap.size ∧ W.cell? ⟨b2, off2 + k * 3, none⟩ = some (.int .i64 y.i) ∧ W.cell? ⟨b2, off2 + k * 3 + 1, none⟩ = some (.int .i64 y.a) ∧ W.cell? ⟨b2, off2 + k * 3 + 2, none⟩ = some (.int .i64 y.b)) := by rw [hr]; exact HR
          have HRr : Hid (r = nxt arcs x) := hr
          rw [← hr]
          clear hr HR d4
          go_loopg [52] r.length (fun gg s52 wr3 => ∃ (m : Nat) (v : Value) (c q : List Int), s52 = .int .i64 m ∧ m ≤ r.length ∧ r.length ≤ gg + m ∧ SrI 87 3 W wr3 (W1.heap.size + 1) v (.slice ac us.length cc) (.slice (some ⟨g4, 0, none⟩) (s.o.length + 1) c4) q c (s.o ++ [(x : Int)]) ∧ KI us.length arcs c q (s.o ++ [(x : Int)]) (r.drop m) ∧ (r.drop m).foldl kahn1 (c, q) = r.foldl kahn1 (s.c, popF s.q))
          case atStart => exact ⟨0, v3, s.c, popF s.q, rfl, by omega, by omega, HI4.out, HK4.out, rfl⟩
          case round =>
            clear HI4 HK4
            obtain ⟨m, v5, c5, q5, rfl, hm, hgm, hI, hK, hF⟩ := hrel
            have hbd := hK.bound
            by_cases hml : m < r.length
            · have hmz : (m : Int) < (r.length : Int) := by omega
              have hy : r[m]? = some (r[m]'hml) := List.getElem?_eq_getElem hml
              generalize r[m]'hml = y at hy
              obtain ⟨b2, off2, rfl, lb2, y1, y2, y3⟩ := HR5.out m y hy
              have d5 := (hI.q.bel.cell (p := ⟨b2, off2 + m * 3, none⟩) lb2).trans y1
              have d6 := (hI.q.bel.cell (p := ⟨b2, off2 + m * 3 + 1, none⟩) lb2).trans y2
              have d7 := (hI.q.bel.cell (p := ⟨b2, off2 + m * 3 + 2, none⟩) lb2).trans y3
              have l7 := Nat.lt_of_lt_of_le lb2 hI.q.bel.size
              have hyb := (HRm.out y (List.mem_of_getElem? hy)).2
              have hyz : (y.b : Int) < (us.length : Int) := by omega
              have hdr : r.drop m = y :: r.drop (m + 1) := dropT hy
              rw [hdr] at hK hF
              obtain ⟨gc, rfl⟩ : ∃ gc, ac = some ⟨gc, 0, none⟩ := by
                rcases hI.cn.2 with ⟨h1, h2⟩ | ⟨g, cap, cur, h1, _⟩
                · have := hK.len; omega
                · exact ⟨g, (Value.slice.inj h1).1⟩
              have d8 := hI.cat hK.len hyb
              have hcn := hI.cn
              rw [hK.len] at hcn
              have f8 := hcn.frozenAt y.b
              clear hcn
              have l8 := (hI.cn.lt gc rfl).2
              obtain ⟨z, hz⟩ : ∃ z, z = gz c5 y.b := ⟨_, rfl⟩
              rw [← hz] at d8
              have hzb : 0 < z ∧ z ≤ 400 := by
                have e := hK.cnt y.b hyb
                have h1 : inA arcs (s.o ++ [(x : Int)]) y.b ≤ arcs.length := List.length_filter_le ..
                have h2 : ((y :: r.drop (m + 1)).filter fun x => decide (x.b = y.b)).length ≤ (y :: r.drop (m + 1)).length := List.length_filter_le ..
                have h3 : (y :: r.drop (m + 1)).length ≤ 200 := by rw [← hdr, List.length_drop]; omega
                have h4 : 0 < ((y :: r.drop (m + 1)).filter fun x => decide (x.b = y.b)).length := by simp
                omega
              obtain ⟨z', hz'⟩ : ∃ z', z' = z - 1 := ⟨_, rfl⟩
              have e1 : IntKind.i64.wrap (z - 1) = z' := by rw [IntKind.wrap_i64]; omega
              have hI5 := (hI.cnt hK.len (by decide) y.b z').kept (GrX.alloc _ (.cells #[.int .i64 y.i, .int .i64 y.a, .int .i64 y.b] 79))
              have hP5 := Tryz.hPush hI5.q (by omega) (y.b : Int)
              have hq5 := hK.arc (HRm.out y (List.mem_of_getElem? hy))
              have hkk : kahn1 (c5, q5) y = (c5.set y.b z', if z' = 0 then pushF q5 y.b else q5) := by unfold kahn1; rw [hz', hz]
              rw [hkk] at hq5
              rw [List.foldl_cons, hkk] at hF
              have HI5 : Hid (SrI 87 3 W ((wr.setCell ⟨gc, y.b, none⟩ (.int .i64 z')).alloc (.cells #[.int .i64 y.i, .int .i64 y.a, .int .i64 y.b] 79)) (W1.heap.size + 1) v5 (.slice (some ⟨gc, 0, none⟩) us.length cc) (.slice (some ⟨g4, 0, none⟩) (s.o.length + 1) c4) q5 (c5.set y.b z') (s.o ++ [(x : Int)])) := hI5
              have HK5 : Hid (KI us.length arcs (c5.set y.b z') (if z' = 0 then pushF q5 y.b else q5) (s.o ++ [(x : Int)]) (r.drop (m + 1)) ∧ (r.drop (m + 1)).foldl kahn1 (c5.set y.b z', if z' = 0 then pushF q5 y.b else q5) = r.foldl kahn1 (s.c, popF s.q)) := ⟨hq5, hF⟩
              clear hI5 hq5 hF hkk hK hI hdr hz hz' hy y1 y2 y3
              by_cases hz0 : z' = 0
              · have HZ : Hid (z' = 0) := hz0
                subst hz0
                go_wp2_with (go_at_call 36; refine Calls.mono hP5 ?_; rintro e W6 ⟨rfl, v6, hq6, hs6⟩; have HQ6 : Hid (HQ 87 3 W W6 (W1.heap.size + 1) v6 (pushF q5 y.b) ∧ HSt (W1.heap.size + 1) ((wr.setCell ⟨gc, y.b, none⟩ (.int .i64 0)).alloc (.cells #[.int .i64 y.i, .int .i64 y.a, .int .i64 y.b] 79)) v5 W6 v6) := ⟨hq6, hs6⟩; clear hq6 hs6 hP5)
                go_roundg (r.length - (m + 1))
                case measure => omega
                case rel =>
                  have hk5 := HK5.out
                  rw [if_pos HZ.out] at hk5
                  exact ⟨m + 1, v6, _, _, by go_num, by omega, by omega, HI5.out.heap (by decide) HQ6.out.1 HQ6.out.2, hk5.1, hk5.2⟩
              · have hzb2 : (z' == 0) = false := by simpa using hz0
                have HZ : Hid (¬z' = 0) := hz0
                clear hP5
                go_wp2
                go_roundg (r.length - (m + 1))
                case measure => omega
                case rel =>
                  have hk5 := HK5.out
                  rw [if_neg HZ.out] at hk5
                  exact ⟨m + 1, v5, _, _, by go_num, by omega, by omega, HI5.out, hk5.1, hk5.2⟩
            · obtain rfl : m = r.length := by omega
              rw [List.drop_length] at hK hF
              have HE : Hid (SrI 87 3 W wr (W1.heap.size + 1) v5 (.slice ac us.length cc) (.slice (some ⟨g4, 0, none⟩) (s.o.length + 1) c4) q5 c5 (s.o ++ [(x : Int)]) ∧ (c5, q5) = r.foldl kahn1 (s.c, popF s.q)) := ⟨hI, hF⟩
              clear hI hK hF
              go_wp2
              go_roundg (us.length - (s.o.length + 1))
              case measure => omega
              case rel =>
                have hks : kstep arcs s = ⟨c5, q5, s.o ++ [(x : Int)]⟩ := by
                  unfold kstep
                  rw [filter_nxt arcs x HG.out, HG.out, ← HRr.out]
                  dsimp only
                  rw [← HE.out.2]
                have h1 := KI.step HA.out HI.out.2.1 hq0y
                have h2 := kloop_step HA.out HI.out.2.1 hq0y
                rw [hks] at h1 h2
                refine ⟨⟨c5, q5, s.o ++ [(x : Int)]⟩, v5, _, rfl, by simp; omega, HE.out.1, h1, h2.symm.trans HI.out.2.2.1⟩
end Go.Proofs

/-
  SUCCESSION: the closure of cycle; slices.IndexFunc of arcs with it. Own work.
-/
namespace Go.Tp
open Go Go.Pi
/-- the first place at which p holds, or -1 -/
def ixA (p : Ar → Bool) : List Ar → Nat → Int
  | [], _ => -1
  | x :: l, k => if p x then (k : Int) else ixA p l (k + 1)
/-- what cycle's closure captures -/
def capD (a : Ar) (d : List Int) (v : Nat) : List D := [.pt (arD a), .pt [.sl d.length (ints .i64 d)], .pt [.int .i64 v]]
theorem ixA_find {p : Ar → Bool} {b : Ar} : ∀ {l : List Ar} (k : Nat), l.find? p = some b → ∃ j : Nat, ixA p l k = ((k + j : Nat) : Int) ∧ l[j]? = some b
  | [], k, h => by cases h
  | x :: l, k, h => by
    unfold ixA
    rw [List.find?_cons] at h
    cases hp : p x with
    | true => rw [hp] at h; cases h; exact ⟨0, by rw [if_pos rfl]; rfl, rfl⟩
    | false =>
      rw [hp] at h
      obtain ⟨j, h1, h2⟩ := ixA_find (k + 1) h
      exact ⟨j + 1, by rw [if_neg (by simp)]; rw [h1]; congr 1; omega, by simpa using h2⟩
end Go.Tp
namespace Go.Proofs
open Go Go.Pi Go.RowKit Go.Tp
set_option maxRecDepth 100000 in
set_option maxHeartbeats 8000000 in
theorem Tryz.cyc1 (a b : Ar) (d : List Int) (v n : Nat) (hd : d.length = n) (hv : v < n) (hb : b.b < n) (hn : n ≤ 60) (hbd : ∀ j, j < n → -1 ≤ gz d j ∧ gz d j < n) : Con Tryz.prog Tryz.L 31 (.agg (arD b) :: capD a d v) (.bool (isNx d a.i v b)) := by
  refine rule31 Tryz.hL rfl rfl rfl ?_
  have h1 := getD_gz (l := d) (j := b.b) (by omega)
  have h2 := getD_gz (l := d) (j := v) (by omega)
  have h3 := hbd v hv
  have h4 := hbd b.b hb
  simp only [capD, arD, pc31, rs31, oU, oC, evX, evY, evZ, forall_const, implies_true, initE, stepF, D.clean, mvF, moF, tkF, shF, ariF, ciF, catF, scF, ebF, eqF, eqOk, eqPr, enF, notF, ngF, cvF, csF, csbF, lenF, lenSF, ixF, iaF, PX.slot, iaAF, faF, ldF, D.mem, stF, bxF, mkSF, boundF, fldF, ixAF, mmF2, D.plain, D.isPure, optAll, D.dull, callVF, splice, D.cells, D.one, sets, resT, D.flat, D.flat0, D.simple, Nat.reduceBNe, Nat.reduceLT, reduceIte, Nat.reduceEqDiff, Nat.reduceAdd, Nat.reduceMul, Nat.reduceSub, Nat.reduceLeDiff, Int.reduceToNat, Int.reduceLT, Int.reduceLE, Int.reduceEq, Int.reduceNeg, Int.reduceSub, Int.reduceAdd, Int.reduceMul, stG_own]
  rw [h1, h2]
  refine ⟨fun hlt => ⟨⟨by omega, by omega, by omega⟩, by omega, ⟨by omega, by omega, by omega⟩, by omega, ⟨by omega, by omega⟩, ?_⟩, fun hlt => ?_⟩
  · unfold isNx
    rw [decide_eq_true (show a.i < b.i by omega), Bool.true_and]
    exact (dB_dec (gz d b.b = gz d v - 1)).symm
  · unfold isNx
    rw [decide_eq_false (show ¬a.i < b.i by omega), Bool.false_and]
set_option maxRecDepth 100000 in
set_option maxHeartbeats 8000000 in
theorem Tryz.sindexA {f : Nat} {caps : List D} (p : Ar → Bool) (l : List Ar) (hl : l.length ≤ 1000) (h : ∀ x ∈ l, Con Tryz.prog Tryz.L f ([.agg (arD x)] ++ caps) (.bool (p x))) :
    Con Tryz.prog Tryz.L 30 [.sl l.length (arsD l), .clo f caps] (.int .i64 (ixA p l 0)) := by
  refine rule30 Tryz.hL rfl rfl rfl ?_
  (simp only [pc30, rs30, oU, oC]; refine ev ?_; try with_reducible exact trivial)
  refine loopF_of (fun E => ∃ k : Nat, k ≤ l.length ∧ ixA p l 0 = ixA p (l.drop k) k ∧ E = [(0, .sl l.length (arsD l)), (1, .clo f caps), (7, .int .i64 l.length), (8, .int .i64 k)])
    (fun E => match lk E 8 with | .int _ i => l.length - i.toNat | _ => 0) ⟨0, Nat.zero_le _, rfl, rfl⟩ ?_
  rintro _ ⟨k, hk, hi, rfl⟩
  simp only [evX, evY, evZ, forall_const, implies_true, initE, stepF, D.clean, mvF, moF, tkF, shF, ariF, ciF, catF, scF, ebF, eqF, eqOk, eqPr, enF, notF, ngF, cvF, csF, csbF, lenF, lenSF, ixF, iaF, PX.slot, iaAF, faF, ldF, D.mem, stF, bxF, mkSF, boundF, fldF, ixAF, mmF2, D.plain, D.isPure, optAll, D.dull, callVF, splice, D.cells, D.one, sets, resT, D.flat, D.flat0, D.simple, Nat.reduceBNe, Nat.reduceLT, reduceIte, Nat.reduceEqDiff, Nat.reduceAdd, Nat.reduceMul, Nat.reduceSub, Nat.reduceLeDiff, Int.reduceToNat, Int.reduceLT, Int.reduceLE, Int.reduceEq, Int.reduceNeg, Int.reduceSub, Int.reduceAdd, Int.reduceMul, stG_own, ldC_ars]
  refine ⟨fun h1 => ?_, fun h1 => ?_⟩
  · have hx : l[k]? = some (l[k]'(by omega)) := List.getElem?_eq_getElem (by omega)
    generalize l[k]'(by omega) = x at hx
    have hd := dropT hx
    refine ⟨⟨by omega, by omega, by rw [arsD_len]; omega⟩, x, hx, ?_⟩
    refine callF_of (h x (List.mem_of_getElem? hx)) ?_
    (refine ev ?_; try with_reducible exact trivial)
    rw [hd] at hi
    simp only [ixA] at hi
    cases hp : p x with
    | true =>
      (refine ev ?_; try with_reducible exact trivial)
      rw [hi, hp]; rfl
    | false =>
      (refine ev ?_; try with_reducible exact trivial)
      have hi2 : ixA p l 0 = ixA p (l.drop (k + 1)) (k + 1) := by rw [hi, hp]; rfl
      refine ⟨by omega, ⟨k + 1, by omega, hi2, rfl⟩, by omega⟩
  · have : k = l.length := by omega
    subst this
    rw [hi]; simp [ixA]
end Go.Proofs

/-
  SUCCESSION: the calls that cycle makes, in the plain walk. Own work.
-/
namespace Go.Tp
open Go Go.Pi Go.RowKit
theorem rep_more {S S' : Nat → Nat → Prop} {W w : World} {d : D} {v : Value} (h : Rep S W d v) (hS : ∀ b j, S b j → b < W.heap.size) (hb : Below W.heap.size W w) (h2 : ∀ b j, b < W.heap.size → S' b j) : Rep S' w d v :=
  h.mono (fun b j hs => h2 b j (hS b j hs)) fun b j hs => hb.cell (p := ⟨b, j, none⟩) (hS b j hs)
theorem rep_pt1 {S : Nat → Nat → Prop} {w : World} {b e : Nat} {cs : Array Value} {ds : List D} (h : BoxV w b e cs) (hS : ∀ j, S b j) (hl : ds.length = cs.size) (h1 : ∀ d ∈ ds, d.one = true) (hr : ∀ (i : Nat) (d : D) (v : Value), ds[i]? = some d → cs[i]? = some v → Rep S w d v) : Rep S w (.pt ds) (.pointer (some ⟨b, 0, none⟩)) :=
  .pt ds b 0 cs.toList (by simpa using hl) h1 (fun i v hi => ⟨hS _, by rw [Nat.zero_add]; exact h.cell (by simpa using hi)⟩) fun i d v hd hv => hr i d v hd (by simpa using hv)
end Go.Tp
namespace Go.Proofs
open Go Go.Pi Go.RowKit Go.Tp Go.Lib
theorem Tryz.sdcall {S : Nat → Nat → Prop} {W w : World} {v : Value} {us : List (List UInt8)} {arcs : List Ar} (hS : ∀ b j, S b j → b < W.heap.size) (hN : Rep S W (gD us arcs) v) (hu : us.length ≤ 60) (hl : arcs.length ≤ 200) (ha : ∀ x ∈ arcs, ArOk us.length x ∧ x.i ≤ 200) (hb : Below W.heap.size W w) {tg : Nat} (above : Int) (ht : tg < us.length) :
    Calls Tryz.prog 29 #[v, .int .i64 tg, .int .i64 above] w fun e w' => ∃ g cap, e = .returned (.slice (some ⟨g, 0, none⟩) us.length cap) ∧ Below w.heap.size w w' ∧ w'.ownsRow w.heap.size 3 1 (.slice (some ⟨g, 0, none⟩) us.length cap) us.length (intsV (distF us.length arcs tg above)) := by
  have hd := distF_df (above := above) ht fun x hx => (ha x hx).1
  refine Calls.mono ((Tryz.sdistances us arcs tg above hu hl ha ht).2 (fun b _ => b < w.heap.size) w [v, .int .i64 tg, .int .i64 above] (fun _ _ h => h) trivial (Reps.cons (rep_more hN hS hb fun b _ h => Nat.lt_of_lt_of_le h hb.size) (Reps.cons (.int _ _) (Reps.cons (.int _ _) .nil)))) ?_
  rintro e w' ⟨r, rfl, hbw, hr⟩
  have ho := own_ints (n := us.length) (by kernel_rfl) hd.len hr
  rcases ho.2 with ⟨_, h2⟩ | ⟨g, cap, cur, rfl, _⟩
  · omega
  · exact ⟨g, cap, rfl, hbw, ho⟩
theorem Tryz.sixcall {S : Nat → Nat → Prop} {W w : World} {adj : Option Addr} {capj : Nat} {us : List (List UInt8)} {r : List Ar} (hS : ∀ b j, S b j → b < W.heap.size) (hN : Rep S W (.sl r.length (arsD r)) (.slice adj r.length capj)) (hu : us.length ≤ 60) (hl : r.length ≤ 200) (ha : ∀ x ∈ r, ArOk us.length x) (hb : Below W.heap.size W w) {base bA bD bV eA eD eV g cap : Nat} {a : Ar} {d : List Int} {v : Nat} (h1 : BoxV w bA eA #[.int .i64 a.i, .int .i64 a.a, .int .i64 a.b]) (h2 : BoxV w bD eD #[.slice (some ⟨g, 0, none⟩) us.length cap]) (h3 : BoxV w bV eV #[.int .i64 v]) (ho : w.ownsRow base 3 1 (.slice (some ⟨g, 0, none⟩) us.length cap) us.length (intsV d)) (hd : d.length = us.length) (hv : v < us.length) (hbd : ∀ j, j < us.length → -1 ≤ gz d j ∧ gz d j < us.length) :
    Calls Tryz.prog 30 #[.slice adj r.length capj, .func (.func 31) #[] #[.pointer (some ⟨bA, 0, none⟩), .pointer (some ⟨bD, 0, none⟩), .pointer (some ⟨bV, 0, none⟩)]] w fun e w' => e = .returned (.int .i64 (ixA (isNx d a.i v) r 0)) ∧ Below w.heap.size w w' := by
  have hcap : Reps (fun b _ => b < w.heap.size) w (capD a d v) [.pointer (some ⟨bA, 0, none⟩), .pointer (some ⟨bD, 0, none⟩), .pointer (some ⟨bV, 0, none⟩)] := by
    refine Reps.cons (rep_pt1 h1 (fun _ => h1.lt) rfl (by simp [arD, D.one]) fun i x u hx hu => ?_) (Reps.cons (rep_pt1 h2 (fun _ => h2.lt) rfl (by simp [D.one]) fun i x u hx hu => ?_) (Reps.cons (rep_pt1 h3 (fun _ => h3.lt) rfl (by simp [D.one]) fun i x u hx hu => ?_) .nil))
    · match i with
      | 0 => cases hx; cases hu; exact .int _ _
      | 1 => cases hx; cases hu; exact .int _ _
      | 2 => cases hx; cases hu; exact .int _ _
      | i + 3 => simp [arD] at hx
    · match i with
      | 0 => cases hx; cases hu; rw [hd]; exact rep_ints ho fun b _ _ h => h
      | i + 1 => simp at hx
    · match i with
      | 0 => cases hx; cases hu; exact .int _ _
      | i + 1 => simp at hx
  refine Calls.mono ((Tryz.sindexA (f := 31) (caps := capD a d v) (isNx d a.i v) r (by omega) fun x hx => Tryz.cyc1 a x d v us.length hd hv (ha x hx).2 hu hbd).2 (fun b _ => b < w.heap.size) w [.slice adj r.length capj, .func (.func 31) #[] #[.pointer (some ⟨bA, 0, none⟩), .pointer (some ⟨bD, 0, none⟩), .pointer (some ⟨bV, 0, none⟩)]] (fun _ _ h => h) trivial (Reps.cons (rep_more hN hS hb fun b _ h => Nat.lt_of_lt_of_le h hb.size) (Reps.cons (.clo _ (capD a d v) [.pointer (some ⟨bA, 0, none⟩), .pointer (some ⟨bD, 0, none⟩), .pointer (some ⟨bV, 0, none⟩)] hcap.1 hcap.2) .nil))) ?_
  rintro e w' ⟨r', rfl, hbw, hr⟩
  cases hr
  exact ⟨rfl, hbw⟩
end Go.Proofs
