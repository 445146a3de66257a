/-
  KINK: the iterator over the domains of a profile. Own work.
-/
import Derived.Test.YtokpkgcjjbdinaaGreatDoorSf
import Derived.Test.YtokpkgcjjbdinaaGreatDoorPi
import Derived.Test.YtokpkgcjjbdinaaGreatDoorPj
import Derived.Test.YtokpkgcjjbdinaaGreatDoorSb
import Derived.Test.YtokpkgcjjbdinaaGreatDoorEg
import Derived.RangeFuncBox
import Derived.RangeFuncLeaves
import Derived.Shelf.Abstract
import Derived.WalkKit
import Derived.OwnWalkIn
import Derived.TacticsInMore
import Derived.LoopNIn
import Derived.LoopIn
import Derived.Stop.RegionWithIn
import Derived.Test.YtokpkgcjjbdinaaGreatDoorProg
import Derived.KernelRfl
import Derived.Test.YtokpkgcjjbdinaaGreatDoorPl
import Derived.Test.YtokpkgcjjbdinaaGreatDoorEe
set_option linter.unusedVariables false
set_option linter.unusedSimpArgs false
namespace Go.Proofs
open Go Go.Pi Go.RowKit Go.Ar Go.Ge Go.Kk Go.Shelf
attribute [local go_sem] Oper.semAt_some

/-- n numbers as data -/
abbrev nms (n : Nat) (f : Nat → Rat) : List D := lst n fun k => .str (rt (f k))
def pfD (p : Pf) : List D := [.str (rt p.s.1), .str (rt p.s.2), .sl p.n (nms p.n p.t), .sl p.n (nms p.n p.l)]
def dmD (x : Dm) : List D := [.str (rt x.a.1), .str (rt x.a.2), .str (rt x.n.1), .str (rt x.n.2), .str (rt x.f.1), .str (rt x.f.2), .str (rt x.l)]

/-- numbers of a bounded size; right dips and lengths -/
structure PSz (p : Pf) : Prop where
  n0 : 0 < p.n
  n : p.n ≤ 4
  t : ∀ k, k < p.n → rd (p.t k) ≤ 10
  l : ∀ k, k < p.n → rd (p.l k) ≤ 10
  at' : ∀ k, k ≤ p.n → Sz 100 (p.at' k)
  ax : ∀ k, k ≤ p.n → Sz 100 (p.ax k)
  gr : ∀ k, k < p.n → rd (p.gr k) ≤ 100
  ok : ∀ k, k < p.n → -1 < p.t k ∧ p.t k < 1 ∧ 0 < p.l k

def sq115 (cs xs : List D) : Prop := ∃ p : Pf, cs = [.pt (pfD p)] ∧ PSz p ∧ xs = lst p.n fun k => .agg (dmD (p.dm k))

/-- what is taken together in a new block -/
theorem boxed_res {P : Program} {S : Nat → Nat → Prop} {w : World} {f t : Nat} {ds : List D} {vs : List Value} (hx : Reps S w ds vs) (h1 : ∀ d ∈ ds, d.one = true) (hS : ∀ b j, S b j → b < w.heap.size) :
    Res P S w (w.alloc (.cells vs.toArray t)) (.clo f [.pt ds]) (.func (.func f) #[] #[.pointer (some ⟨w.heap.size, 0, none⟩)]) := by
  have hr : Reps (fun b j => S b j ∨ (w.heap.size ≤ b ∧ b < (w.alloc (.cells vs.toArray t)).heap.size)) (w.alloc (.cells vs.toArray t)) ds vs :=
    hx.mono (fun _ _ h => .inl h) (fun b o h => cell_of_heap (Below.heap_alloc _ _ b (hS b o h)))
  refine .clo f _ [.pointer (some ⟨w.heap.size, 0, none⟩)] rfl (Reps.cons (.pt ds w.heap.size 0 vs hr.1 h1 ?_ hr.2) .nil).2
  intro i v hi
  refine ⟨.inr ⟨Nat.le_refl _, by simp⟩, ?_⟩
  have hn := World.alloc_heap_new w (.cells vs.toArray t)
  simp only [World.cell?, hn]
  simpa using hi

theorem Tryz.cdomains {L : World → Prop} (p : Pf) : Con Tryz.prog L 73 [.agg (pfD p)] (.clo 115 [.pt (pfD p)]) := by
  refine ⟨⟨by kernel_rfl, rfl⟩, fun S w vs hS hL hv => ?_⟩
  obtain ⟨x, rfl, hx⟩ := reps_1 hv
  obtain ⟨a, b, c, d, rfl, h4⟩ : ∃ a b c d, x = .agg #[a, b, c, d] ∧ Reps S w (pfD p) [a, b, c, d] := by
    cases hx with
    | agg _ vs hl _ h =>
      match vs, hl with
      | [a, b, c, d], hl => exact ⟨a, b, c, d, rfl, hl, h⟩
  have HX := Lib.hid h4
  clear h4 hv hx
  go_enter Tryz.func73, Tryz.ntmps73
  go_wp2
  go_ret
  exact ⟨_, rfl, (Below.refl _ _).alloc (Nat.le_refl _) _, boxed_res (vs := [a, b, c, d]) HX.out (by simp [pfD, D.one]) hS⟩

theorem rep_str {S : Nat → Nat → Prop} {w : World} {l : List UInt8} {v : Value} (h : Rep S w (.str l) v) : v = .string ⟨l.toArray⟩ := by cases h; rfl
theorem rep_pt {S : Nat → Nat → Prop} {w : World} {q : Pt} {v : Value} (h : Rep S w (ptD q) v) : v = .agg #[.string ⟨(rt q.1).toArray⟩, .string ⟨(rt q.2).toArray⟩] ∧ (rt q.1).length ≤ maxLen ∧ (rt q.2).length ≤ maxLen := by
  cases h with
  | agg _ vs hl _ h =>
    match vs, hl with
    | [a, b], hl =>
      have h1 := h 0 _ _ rfl rfl
      have h2 := h 1 _ _ rfl rfl
      cases h1; cases h2
      exact ⟨rfl, by assumption, by assumption⟩
theorem pt_rep {S : Nat → Nat → Prop} {w : World} {q : Pt} (h1 : (rt q.1).length ≤ maxLen) (h2 : (rt q.2).length ≤ maxLen) : Rep S w (ptD q) (.agg #[.string ⟨(rt q.1).toArray⟩, .string ⟨(rt q.2).toArray⟩]) :=
  .agg _ [.string ⟨(rt q.1).toArray⟩, .string ⟨(rt q.2).toArray⟩] rfl (by simp [D.one]) (Reps.cons (.str _ h1) (Reps.cons (.str _ h2) .nil)).2
theorem sl_at {S : Nat → Nat → Prop} {w : World} {n cap k : Nat} {f : Nat → Rat} {ad : Option Addr} (h : Rep S w (.sl n (nms n f)) (.slice ad n cap)) (hk : k < n) :
    ∃ b off, ad = some ⟨b, off, none⟩ ∧ n ≤ cap ∧ S b (off + k) ∧ w.cell? ⟨b, off + k, none⟩ = some (.string ⟨(rt (f k)).toArray⟩) ∧ (rt (f k)).length ≤ maxLen := by
  generalize hx : nms n f = cs at h
  cases h with
  | sl0 => omega
  | slN => omega
  | sl _ _ b off cap vs hl h1 hn hc hr hh =>
    subst hx
    rw [lst_len] at hl
    have hv : vs[k]? = some vs[k] := List.getElem?_eq_getElem (by omega)
    have h2 := hh k _ _ (lst_at _ hk) hv
    obtain ⟨h3, h4⟩ := hr k _ hv
    generalize vs[k] = u at *
    cases h2
    exact ⟨b, off, rfl, hn, h3, h4, by assumption⟩
theorem setCell_at {W : World} {b t off : Nat} {c : Array Value} {fr : Nat × Nat} (u : Value) (h : W.heap[b]? = some (.cells c t fr)) : (W.setCell ⟨b, off, none⟩ u).heap[b]? = some (.cells (c.setIfInBounds off u) t fr) := by
  obtain ⟨hlt, hk⟩ := Array.getElem?_eq_some_iff.1 h
  have e : (W.setCell ⟨b, off, none⟩ u).heap = W.heap.modify b (fun | .cells c elem frozen => .cells (if (none : Option Nat).isSome then c else c.setIfInBounds off u) elem frozen | o => o) := rfl
  rw [e, Array.getElem?_eq_getElem (by rw [Array.size_modify]; exact hlt), Array.getElem_modify_self, hk]
  rfl
theorem turn_set2 {W : World} {b t : Nat} {x y : Value} (u v : Value) (h : W.heap[b]? = some (.cells #[x, y] t (0, 0))) :
    Turn b W ((W.setCell ⟨b, 0, none⟩ u).setCell ⟨b, 1, none⟩ v) ∧ ((W.setCell ⟨b, 0, none⟩ u).setCell ⟨b, 1, none⟩ v).heap[b]? = some (.cells #[u, v] t (0, 0)) := by
  refine ⟨⟨⟨_, _, _, h⟩, by simp [World.setCell], fun k hk => (Below.heap_setCell _ _ _ k hk).trans (Below.heap_setCell _ _ _ k hk), rfl, rfl, rfl⟩, ?_⟩
  have h1 := setCell_at (off := 0) u h
  exact setCell_at (off := 1) v h1
theorem rep_slv {S : Nat → Nat → Prop} {w : World} {n : Nat} {cs : List D} {v : Value} (h : Rep S w (.sl n cs) v) : ∃ ad cap, v = .slice ad n cap := by cases h <;> exact ⟨_, _, rfl⟩

set_option maxRecDepth 100000 in
set_option maxHeartbeats 4000000 in
theorem Tryz.seqDom : IsSeq Tryz.prog Tryz.L 115 sq115 := by
  intro nn l vs J Z cs xs S0 W0 hsq hS0 hr hJ hB hC hT hZ hZc hY h0
  obtain ⟨p, rfl, hp, rfl⟩ := hsq
  obtain ⟨x, rfl, hx⟩ := reps_1 hr
  obtain ⟨Bs, bo, va, vb, vc, vd, rfl, hrow, h4⟩ : ∃ Bs bo a b c d, x = .pointer (some ⟨Bs, bo, none⟩) ∧ Row S0 W0 Bs bo [a, b, c, d] ∧ Reps S0 W0 (pfD p) [a, b, c, d] := by
    cases hx with
    | pt _ b off vs hl _ hr h =>
      match vs, hl with
      | [a, b', c, d], hl => exact ⟨b, off, a, b', c, d, rfl, hr, hl, h⟩
  have ea := rep_str (h4.2 0 _ _ rfl rfl)
  have eb := rep_str (h4.2 1 _ _ rfl rfl)
  have hsc := h4.2 2 _ _ rfl rfl
  have hsd := h4.2 3 _ _ rfl rfl
  obtain ⟨c0, c1, c2, c3⟩ : W0.cell? ⟨Bs, bo, none⟩ = some va ∧ W0.cell? ⟨Bs, bo + 1, none⟩ = some vb ∧ W0.cell? ⟨Bs, bo + 2, none⟩ = some vc ∧ W0.cell? ⟨Bs, bo + 3, none⟩ = some vd :=
    ⟨(hrow 0 _ rfl).2, (hrow 1 _ rfl).2, (hrow 2 _ rfl).2, (hrow 3 _ rfl).2⟩
  obtain ⟨s0, s1, s2, s3⟩ : S0 Bs bo ∧ S0 Bs (bo + 1) ∧ S0 Bs (bo + 2) ∧ S0 Bs (bo + 3) :=
    ⟨(hrow 0 _ rfl).1, (hrow 1 _ rfl).1, (hrow 2 _ rfl).1, (hrow 3 _ rfl).1⟩
  obtain ⟨ac, capc, rfl⟩ : ∃ ad cap, vc = .slice ad p.n cap := rep_slv hsc
  obtain ⟨ad, capd, rfl⟩ : ∃ ad cap, vd = .slice ad p.n cap := rep_slv hsd
  subst ea eb
  refine callsIn_of_wp Tryz.func115 rfl trivial ?_ rfl
  simp only [Tryz.ntmps115, List.size_toArray, List.length_cons, List.length_nil, Nat.reduceAdd, Nat.reduceSub, Array.replicate_succ, Array.replicate_zero, List.push_toArray, List.append_toArray, List.nil_append, List.cons_append]
  have hpn := hp.n
  have hx0 := Lib.hid (And.intro hsc (And.intro hsd (And.intro hr (And.intro hx h4))))
  clear hsc hsd hr hx h4 hrow
  have c2' : ∀ o, (W0.alloc o).cell? ⟨Bs, bo + 2, none⟩ = some (.slice ac p.n capc) := fun o => (cell_of_heap (Below.heap_alloc W0 o Bs (hS0 _ _ s2))).trans c2
  gi_wp2
  gi_loopw [12] (fun i wr => ∃ k : Nat, k ≤ p.n ∧ i = .int .i64 (k : Int) ∧ ∃ B : Nat → Prop, J B k wr ∧ B W0.heap.size ∧ wr.heap[W0.heap.size]? = some (.cells #[.string ⟨(rt (p.at' k).1).toArray⟩, .string ⟨(rt (p.at' k).2).toArray⟩] 25 (0, 0))) (fun i _ => ((p.n : Int) - intOf i).toNat)
  case atStart => exact ⟨0, Nat.zero_le _, rfl, _, hC _ _ _ _ W0.heap.size h0 ((Below.refl _ _).alloc (Nat.le_refl _) _) (Nat.le_refl _) (by simp), .inr rfl, World.alloc_heap_new W0 _⟩
  case round => 
    obtain ⟨k, hk, rfl, B, hJB, hBat, hat⟩ := hrel
    obtain ⟨hLw, hsz, hfr⟩ := hJ B k wr hJB
    by_cases hlt : k < p.n
    · obtain ⟨b1, o1, rfl, hcap1, hs1, hd1, hm1⟩ := sl_at hx0.out.1 hlt
      obtain ⟨b2, o2, rfl, hcap2, hs2, hd2, hm2⟩ := sl_at hx0.out.2.1 hlt
      have hd1 := (hfr b1 (o1 + k) hs1).trans hd1
      have hd2' := hd2
      have c3' := c3
      have ht1 : (rt (p.at' k).1).length ≤ maxLen := by have h1 := rt_len (p.at' k).1; have h2 := (hp.at' k hk).1; simp only [maxLen]; omega
      have ht2 : (rt (p.at' k).2).length ≤ maxLen := by have h1 := rt_len (p.at' k).2; have h2 := (hp.at' k hk).2; simp only [maxLen]; omega
      have hd2 := (hfr b2 (o2 + k) hs2).trans hd2
      have c3 := (hfr Bs (bo + 3) s3).trans c3
      have con1 := (Tryz.kdir (p.t k) (by have := hp.t k hlt; omega)).2 S0 wr [.string ⟨(rt (p.t k)).toArray⟩] (fun b j h => Nat.lt_of_lt_of_le (hS0 b j h) hsz) hLw (Reps.cons (.str _ hm1) .nil)
      gi_wp2_with ((first | refine ⟨trivial, ?_⟩ | skip); gi_at_call 56; refine CallsIn.mono (callsIn_wide.2 con1) ?_; rintro e w1 ⟨v1, rfl, hb1, hr1⟩; obtain ⟨rfl, hq1, hq2⟩ := rep_pt hr1)
      have J1 := hB B k wr w1 hJB hb1
      have J2 := hC B k w1 _ w1.heap.size J1 ((Below.refl _ w1).alloc (Nat.le_refl _) (Obj.cells #[Value.string ⟨(rt (Kk.dirK (p.t k)).1).toArray⟩, Value.string ⟨(rt (Kk.dirK (p.t k)).2).toArray⟩] 25)) (Nat.le_refl _) (by simp)
      have hbb : Below wr.heap.size wr (w1.alloc (Obj.cells #[Value.string ⟨(rt (Kk.dirK (p.t k)).1).toArray⟩, Value.string ⟨(rt (Kk.dirK (p.t k)).2).toArray⟩] 25)) := hb1.alloc hb1.size _
      have hnew := World.alloc_heap_new w1 (Obj.cells #[Value.string ⟨(rt (Kk.dirK (p.t k)).1).toArray⟩, Value.string ⟨(rt (Kk.dirK (p.t k)).2).toArray⟩] 25)
      generalize (w1.alloc (Obj.cells #[Value.string ⟨(rt (Kk.dirK (p.t k)).1).toArray⟩, Value.string ⟨(rt (Kk.dirK (p.t k)).2).toArray⟩] 25)) = W2 at *
      have hat2 := (hbb.block _ (Array.getElem?_eq_some_iff.1 hat).1).trans hat
      have hn1 : w1.heap.size < W2.heap.size := (Array.getElem?_eq_some_iff.1 hnew).1
      have ha1 : W0.heap.size < W2.heap.size := (Array.getElem?_eq_some_iff.1 hat2).1
      have cl : ∀ (W : World), W.heap[w1.heap.size]? = W2.heap[w1.heap.size]? → W.cell? ⟨w1.heap.size, 0, none⟩ = some (.string ⟨(rt (Kk.dirK (p.t k)).1).toArray⟩) ∧ W.cell? ⟨w1.heap.size, 1, none⟩ = some (.string ⟨(rt (Kk.dirK (p.t k)).2).toArray⟩) := fun W h => by
        rw [hnew] at h; exact ⟨by simp [World.cell?, h], by simp [World.cell?, h]⟩
      have ct : ∀ (W : World), W.heap[W0.heap.size]? = W2.heap[W0.heap.size]? → W.cell? ⟨W0.heap.size, 0, none⟩ = some (.string ⟨(rt (p.at' k).1).toArray⟩) ∧ W.cell? ⟨W0.heap.size, 1, none⟩ = some (.string ⟨(rt (p.at' k).2).toArray⟩) := fun W h => by
        rw [hat2] at h; exact ⟨by simp [World.cell?, h], by simp [World.cell?, h]⟩
      obtain ⟨e1, e2⟩ := cl W2 rfl
      obtain ⟨e3, e4⟩ := ct W2 rfl
      obtain ⟨hL2, hsz2, hfr2⟩ := hJ _ k W2 J2
      have e5 := (hfr2 Bs (bo + 3) s3).trans c3'
      have e6 := (hfr2 b2 (o2 + k) hs2).trans hd2'
      have con2 := (Tryz.kup (Kk.dirK (p.t k)) ((Sz.dirK (Nat.le_trans (hp.t k hlt) (Nat.le_refl 10))).mono (by omega))).2 S0 W2.drew [.agg #[.string ⟨(rt (Kk.dirK (p.t k)).1).toArray⟩, .string ⟨(rt (Kk.dirK (p.t k)).2).toArray⟩]] (fun b j h => Nat.lt_of_lt_of_le (hS0 b j h) hsz2) (Tryz.hL _ _ hL2 (Below.refl _ _).drew) (Reps.cons (pt_rep hq1 hq2) .nil)
      have eS : (fun W : World => (W.cell? ⟨w1.heap.size, 0, none⟩ = some (.string ⟨(rt (Kk.dirK (p.t k)).1).toArray⟩) ∧ W.cell? ⟨w1.heap.size, 1, none⟩ = some (.string ⟨(rt (Kk.dirK (p.t k)).2).toArray⟩)) ∧ (W.cell? ⟨W0.heap.size, 0, none⟩ = some (.string ⟨(rt (p.at' k).1).toArray⟩) ∧ W.cell? ⟨W0.heap.size, 1, none⟩ = some (.string ⟨(rt (p.at' k).2).toArray⟩)) ∧
          W.cell? ⟨Bs, bo + 3, none⟩ = some (.slice (some ⟨b2, o2, none⟩) p.n capd) ∧ W.cell? ⟨b2, o2 + k, none⟩ = some (.string ⟨(rt (p.l k)).toArray⟩)) = fun W : World => (W.cell? ⟨w1.heap.size, 0, none⟩ = some (.string ⟨(rt (Kk.dirK (p.t k)).1).toArray⟩) ∧ W.cell? ⟨w1.heap.size, 1, none⟩ = some (.string ⟨(rt (Kk.dirK (p.t k)).2).toArray⟩)) ∧ (W.cell? ⟨W0.heap.size, 0, none⟩ = some (.string ⟨(rt (p.at' k).1).toArray⟩) ∧ W.cell? ⟨W0.heap.size, 1, none⟩ = some (.string ⟨(rt (p.at' k).2).toArray⟩)) ∧
          W.cell? ⟨Bs, bo + 3, none⟩ = some (.slice (some ⟨b2, o2, none⟩) p.n capd) ∧ W.cell? ⟨b2, o2 + k, none⟩ = some (.string ⟨(rt (p.l k)).toArray⟩) := rfl
      generalize hSd : (fun W : World => (W.cell? ⟨w1.heap.size, 0, none⟩ = some (.string ⟨(rt (Kk.dirK (p.t k)).1).toArray⟩) ∧ W.cell? ⟨w1.heap.size, 1, none⟩ = some (.string ⟨(rt (Kk.dirK (p.t k)).2).toArray⟩)) ∧ (W.cell? ⟨W0.heap.size, 0, none⟩ = some (.string ⟨(rt (p.at' k).1).toArray⟩) ∧ W.cell? ⟨W0.heap.size, 1, none⟩ = some (.string ⟨(rt (p.at' k).2).toArray⟩)) ∧
          W.cell? ⟨Bs, bo + 3, none⟩ = some (.slice (some ⟨b2, o2, none⟩) p.n capd) ∧ W.cell? ⟨b2, o2 + k, none⟩ = some (.string ⟨(rt (p.l k)).toArray⟩)) = S at eS
      have hSof : ∀ W, S W → (W.cell? ⟨w1.heap.size, 0, none⟩ = some (.string ⟨(rt (Kk.dirK (p.t k)).1).toArray⟩) ∧ W.cell? ⟨w1.heap.size, 1, none⟩ = some (.string ⟨(rt (Kk.dirK (p.t k)).2).toArray⟩)) ∧ (W.cell? ⟨W0.heap.size, 0, none⟩ = some (.string ⟨(rt (p.at' k).1).toArray⟩) ∧ W.cell? ⟨W0.heap.size, 1, none⟩ = some (.string ⟨(rt (p.at' k).2).toArray⟩)) ∧
          W.cell? ⟨Bs, bo + 3, none⟩ = some (.slice (some ⟨b2, o2, none⟩) p.n capd) ∧ W.cell? ⟨b2, o2 + k, none⟩ = some (.string ⟨(rt (p.l k)).toArray⟩) := fun W h => by rw [← hSd] at h; exact h
      have hSto : ∀ W : World, W.heap[w1.heap.size]? = W2.heap[w1.heap.size]? → W.heap[W0.heap.size]? = W2.heap[W0.heap.size]? → W.cell? ⟨Bs, bo + 3, none⟩ = some (.slice (some ⟨b2, o2, none⟩) p.n capd) → W.cell? ⟨b2, o2 + k, none⟩ = some (.string ⟨(rt (p.l k)).toArray⟩) → S W := fun W h1 h2 h3 h4 => by rw [← hSd]; exact ⟨cl W h1, ct W h2, h3, h4⟩
      clear hSd eS
      have hS2 : S W2.drew := hSto _ rfl rfl e5 e6
      refine wpIn_region_heldK (S := S) (by kernel_rfl) ?_
      change wpAnyK _ _ _ _ _ _ _ _ _ _ (World.drew _)
      refine wpAnyK_take (i := 0) (v := ?_) rfl rfl (by kernel_rfl) (by kernel_rfl) (by kernel_rfl) (fun _ _ _ h => h) ⟨.inl ⟨by rfl, ?_⟩, fun _ => rfl⟩ hS2 ?_
      rotate_left
      · intro W hW; obtain ⟨⟨g1, g2⟩, ⟨g3, g4⟩, g5, g6⟩ := hSof W hW; go_simp; (try with_reducible rfl)
      simp only [Act.put]
      refine wpAnyK_take (i := 1) (v := ?_) rfl rfl (by kernel_rfl) (by kernel_rfl) (by kernel_rfl) (fun _ _ _ h => h) ⟨.inl ⟨by rfl, ?_⟩, fun _ => rfl⟩ hS2 ?_
      rotate_left
      · intro W hW; obtain ⟨⟨g1, g2⟩, ⟨g3, g4⟩, g5, g6⟩ := hSof W hW; go_simp; (try with_reducible rfl)
      simp only [Act.put]
      refine wpAnyK_take (i := 2) (v := ?_) rfl rfl (by kernel_rfl) (by kernel_rfl) (by kernel_rfl) (fun _ _ _ h => h) ⟨.inl ⟨by rfl, ?_⟩, fun _ => rfl⟩ hS2 ?_
      rotate_left
      · intro W hW; obtain ⟨⟨g1, g2⟩, ⟨g3, g4⟩, g5, g6⟩ := hSof W hW; go_simp; (try with_reducible rfl)
      simp only [Act.put]
      refine wpAnyK_take (i := 3) (v := ?_) rfl rfl (by kernel_rfl) (by kernel_rfl) (by kernel_rfl) (fun _ _ _ h => h) ⟨.inl ⟨by rfl, ?_⟩, fun _ => rfl⟩ hS2 ?_
      rotate_left
      · intro W hW; obtain ⟨⟨g1, g2⟩, ⟨g3, g4⟩, g5, g6⟩ := hSof W hW; go_simp; (try with_reducible rfl)
      simp only [Act.put]
      refine wpAnyK_take (i := 5) (v := ?_) rfl rfl (by kernel_rfl) (by kernel_rfl) (by kernel_rfl) (fun _ _ _ h => h) ⟨.inl ⟨by rfl, ?_⟩, fun _ => rfl⟩ hS2 ?_
      rotate_left
      · intro W hW; obtain ⟨⟨g1, g2⟩, ⟨g3, g4⟩, g5, g6⟩ := hSof W hW; go_simp; (try with_reducible rfl)
      simp only [Act.put]
      refine wpAnyK_take (i := 6) (v := ?_) rfl rfl (by kernel_rfl) (by kernel_rfl) (by kernel_rfl) (fun _ _ _ h => h) ⟨.inl ⟨by rfl, ?_⟩, fun _ => rfl⟩ hS2 ?_
      rotate_left
      · intro W hW; obtain ⟨⟨g1, g2⟩, ⟨g3, g4⟩, g5, g6⟩ := hSof W hW; go_simp; (try with_reducible rfl)
      simp only [Act.put]
      refine wpAnyK_take (i := 7) (v := ?_) rfl rfl (by kernel_rfl) (by kernel_rfl) (by kernel_rfl) (fun _ _ _ h => h) ⟨.inl ⟨by rfl, ?_⟩, fun _ => rfl⟩ hS2 ?_
      rotate_left
      · intro W hW; obtain ⟨⟨g1, g2⟩, ⟨g3, g4⟩, g5, g6⟩ := hSof W hW; go_simp; (try with_reducible rfl)
      simp only [Act.put]
      refine wpAnyK_take (i := 8) (v := ?_) rfl rfl (by kernel_rfl) (by kernel_rfl) (by kernel_rfl) (fun _ _ _ h => h) ⟨.inl ⟨by rfl, ?_⟩, fun _ => rfl⟩ hS2 ?_
      rotate_left
      · intro W hW; obtain ⟨⟨g1, g2⟩, ⟨g3, g4⟩, g5, g6⟩ := hSof W hW; go_simp; (try with_reducible rfl)
      simp only [Act.put]
      refine wpAnyK_take (i := 9) (v := ?_) rfl rfl (by kernel_rfl) (by kernel_rfl) (by kernel_rfl) (fun _ _ _ h => h) ⟨.inl ⟨by rfl, ?_⟩, fun _ => rfl⟩ hS2 ?_
      rotate_left
      · intro W hW; obtain ⟨⟨g1, g2⟩, ⟨g3, g4⟩, g5, g6⟩ := hSof W hW; go_simp; (try with_reducible rfl)
      simp only [Act.put]
      refine wpAnyK_take (i := 10) (v := ?_) rfl rfl (by kernel_rfl) (by kernel_rfl) (by kernel_rfl) (fun _ _ _ h => h) ⟨.inl ⟨by rfl, ?_⟩, fun _ => rfl⟩ hS2 ?_
      rotate_left
      · intro W hW; obtain ⟨⟨g1, g2⟩, ⟨g3, g4⟩, g5, g6⟩ := hSof W hW; go_simp; (try with_reducible rfl)
      simp only [Act.put]
      refine wpAnyK_one (i := 4) (by kernel_rfl) rfl (fun K hK => ?_)
      go_simp
      refine ⟨trivial, CallsIn.mono (callsIn_wide.2 con2) ?_⟩
      rintro e w3 ⟨v3, rfl, hb3, hr3⟩
      obtain ⟨rfl, hq3, hq4⟩ := rep_pt hr3
      have J3 := hB _ k W2.drew w3 (hB _ k W2 W2.drew J2 (Below.refl _ _).drew) hb3
      have hS3 : S w3 := hSto w3 (hb3.block _ hn1) (hb3.block _ ha1) (((hJ _ k w3 J3).2.2 Bs (bo + 3) s3).trans c3') (((hJ _ k w3 J3).2.2 b2 (o2 + k) hs2).trans hd2')
      have hat3 := (hb3.block _ ha1).trans hat2
      simp only []
      refine hK.out _ _ hS3 ?_
      clear hK K
      refine wpAnyK_take (i := 11) (v := ?_) rfl rfl (by kernel_rfl) (by kernel_rfl) (by kernel_rfl) (fun _ _ _ h => h) ⟨.inl ⟨by rfl, ?_⟩, fun _ => rfl⟩ hS3 ?_
      rotate_left
      · intro W hW; obtain ⟨⟨g1, g2⟩, ⟨g3, g4⟩, g5, g6⟩ := hSof W hW; go_simp; (try with_reducible rfl)
      simp only [Act.put]
      obtain ⟨fn2, tmps2, assign2, body2, hy, hR⟩ := hY _ k w3 J3 S0 _ (.agg #[.string ⟨(rt (Kk.dirK (p.t k)).1).toArray⟩, .string ⟨(rt (Kk.dirK (p.t k)).2).toArray⟩, .string ⟨(rt (upK (Kk.dirK (p.t k))).1).toArray⟩, .string ⟨(rt (upK (Kk.dirK (p.t k))).2).toArray⟩, .string ⟨(rt (p.at' k).1).toArray⟩, .string ⟨(rt (p.at' k).2).toArray⟩, .string ⟨(rt (p.l k)).toArray⟩]) (lst_at _ hlt) (Rep.agg (dmD (p.dm k)) [.string ⟨(rt (Kk.dirK (p.t k)).1).toArray⟩, .string ⟨(rt (Kk.dirK (p.t k)).2).toArray⟩, .string ⟨(rt (upK (Kk.dirK (p.t k))).1).toArray⟩, .string ⟨(rt (upK (Kk.dirK (p.t k))).2).toArray⟩, .string ⟨(rt (p.at' k).1).toArray⟩, .string ⟨(rt (p.at' k).2).toArray⟩, .string ⟨(rt (p.l k)).toArray⟩] rfl (by simp [dmD, D.one]) (Reps.cons (.str _ hq1) (Reps.cons (.str _ hq2) (Reps.cons (.str _ hq3) (Reps.cons (.str _ hq4) (Reps.cons (.str _ ht1) (Reps.cons (.str _ ht2) (Reps.cons (.str _ hm2) .nil))))))).2)
      refine wpAnyK_one (i := 12) (by kernel_rfl) rfl (fun K hK => ?_)
      go_simp
      refine hR.mono ?_
      rintro e W4 ⟨hB4, hcase⟩
      obtain ⟨bb, rfl, hbt, hbf, hcs⟩ : ∃ bb : Bool, e = .returned (.bool bb) ∧ (bb = true → J _ (k + 1) W4) ∧ (bb = false → Z W4) ∧ ∀ b j, S0 b j → W4.cell? ⟨b, j, none⟩ = W0.cell? ⟨b, j, none⟩ := by
        rcases hcase with ⟨rfl, h⟩ | ⟨rfl, h⟩
        · exact ⟨true, rfl, fun _ => h, (fun h => by cases h), (hJ _ _ _ h).2.2⟩
        · exact ⟨false, rfl, (fun h => by cases h), fun _ => h, hZc _ h⟩
      have b6 : W4.heap[w1.heap.size]? = W2.heap[w1.heap.size]? := (hB4 _ (.inr rfl)).trans (hb3.block _ hn1)
      have b3 : W4.heap[W0.heap.size]? = W2.heap[W0.heap.size]? := (hB4 _ (.inl hBat)).trans (hb3.block _ ha1)
      have hS4 : S W4 := hSto W4 b6 b3 ((hcs Bs (bo + 3) s3).trans c3') ((hcs b2 (o2 + k) hs2).trans hd2')
      have hat4 := b3.trans hat2
      simp only []
      refine hK.out _ _ hS4 ?_
      clear hK K hy hR
      refine wpAnyK_take (i := 13) (v := ?_) rfl rfl (by kernel_rfl) (by kernel_rfl) (by kernel_rfl) (fun _ _ _ h => h) ⟨.inl ⟨by rfl, ?_⟩, fun _ => rfl⟩ hS4 ?_
      rotate_left
      · intro W hW; obtain ⟨⟨g1, g2⟩, ⟨g3, g4⟩, g5, g6⟩ := hSof W hW; go_simp; (try with_reducible rfl)
      simp only [Act.put]
      refine wpAnyK_done (by kernel_rfl) ?_ _
      have cl4 := cl W4 b6
      cases bb with
      | false =>
        gi_wp2
        refine bodyPost_ret (results_none rfl _ _ _) rfl ?_
        exact ⟨⟨_, rfl⟩, .inr (by simpa using hbf)⟩
      | true =>
        have J4 := hbt rfl
        gi_wp2
        generalize hSd : (fun W : World => W.cell? ⟨w1.heap.size, 0, none⟩ = some (.string ⟨(rt (Kk.dirK (p.t k)).1).toArray⟩) ∧ W.cell? ⟨w1.heap.size, 1, none⟩ = some (.string ⟨(rt (Kk.dirK (p.t k)).2).toArray⟩) ∧
          W.cell? ⟨Bs, bo + 3, none⟩ = some (.slice (some ⟨b2, o2, none⟩) p.n capd) ∧ W.cell? ⟨b2, o2 + k, none⟩ = some (.string ⟨(rt (p.l k)).toArray⟩)) = S'
        have hSof' : ∀ W, S' W → W.cell? ⟨w1.heap.size, 0, none⟩ = some (.string ⟨(rt (Kk.dirK (p.t k)).1).toArray⟩) ∧ W.cell? ⟨w1.heap.size, 1, none⟩ = some (.string ⟨(rt (Kk.dirK (p.t k)).2).toArray⟩) ∧
          W.cell? ⟨Bs, bo + 3, none⟩ = some (.slice (some ⟨b2, o2, none⟩) p.n capd) ∧ W.cell? ⟨b2, o2 + k, none⟩ = some (.string ⟨(rt (p.l k)).toArray⟩) := fun W h => by rw [← hSd] at h; exact h
        have hSto' : ∀ W : World, W.heap[w1.heap.size]? = W2.heap[w1.heap.size]? → W.cell? ⟨Bs, bo + 3, none⟩ = some (.slice (some ⟨b2, o2, none⟩) p.n capd) → W.cell? ⟨b2, o2 + k, none⟩ = some (.string ⟨(rt (p.l k)).toArray⟩) → S' W := fun W h1 h3 h4 => by rw [← hSd]; exact ⟨(cl W h1).1, (cl W h1).2, h3, h4⟩
        clear hSd
        have q5 := (hcs Bs (bo + 3) s3).trans c3'
        have q6 := (hcs b2 (o2 + k) hs2).trans hd2'
        have hS5 : S' W4.drew := hSto' _ b6 q5 q6
        obtain ⟨t3, t4⟩ := ct W4 b3
        obtain ⟨hL4, hsz4, _⟩ := hJ _ _ W4 J4
        have con3 := (Tryz.kplus (p.at' k) (Kk.dirK (p.t k)) (p.l k) ((hp.at' k hk).mono (by omega)) ((Sz.dirK (Nat.le_trans (hp.t k hlt) (Nat.le_refl 10))).mono (by omega)) (by have := hp.l k hlt; omega)).2 S0 W4.drew [.agg #[.string ⟨(rt (p.at' k).1).toArray⟩, .string ⟨(rt (p.at' k).2).toArray⟩], .agg #[.string ⟨(rt (Kk.dirK (p.t k)).1).toArray⟩, .string ⟨(rt (Kk.dirK (p.t k)).2).toArray⟩], .string ⟨(rt (p.l k)).toArray⟩] (fun b j h => Nat.lt_of_lt_of_le (hS0 b j h) hsz4) (Tryz.hL _ _ hL4 (Below.refl _ _).drew) (Reps.cons (pt_rep ht1 ht2) (Reps.cons (pt_rep hq1 hq2) (Reps.cons (.str _ hm2) .nil)))
        refine wpIn_region_heldK (S := S') (by kernel_rfl) ?_
        change wpAnyK _ _ _ _ _ _ _ _ _ _ (World.drew _)
        refine wpAnyK_take (i := 1) (v := ?_) rfl rfl (by kernel_rfl) (by kernel_rfl) (by kernel_rfl) (fun _ _ _ h => h) ⟨.inl ⟨by rfl, ?_⟩, fun _ => rfl⟩ hS5 ?_
        rotate_left
        · intro W hW; obtain ⟨g1, g2, g5, g6⟩ := hSof' W hW; go_simp; (try with_reducible rfl)
        simp only [Act.put]
        refine wpAnyK_take (i := 2) (v := ?_) rfl rfl (by kernel_rfl) (by kernel_rfl) (by kernel_rfl) (fun _ _ _ h => h) ⟨.inl ⟨by rfl, ?_⟩, fun _ => rfl⟩ hS5 ?_
        rotate_left
        · intro W hW; obtain ⟨g1, g2, g5, g6⟩ := hSof' W hW; go_simp; (try with_reducible rfl)
        simp only [Act.put]
        refine wpAnyK_take (i := 3) (v := ?_) rfl rfl (by kernel_rfl) (by kernel_rfl) (by kernel_rfl) (fun _ _ _ h => h) ⟨.inl ⟨by rfl, ?_⟩, fun _ => rfl⟩ hS5 ?_
        rotate_left
        · intro W hW; obtain ⟨g1, g2, g5, g6⟩ := hSof' W hW; go_simp; (try with_reducible rfl)
        simp only [Act.put]
        refine wpAnyK_take (i := 4) (v := ?_) rfl rfl (by kernel_rfl) (by kernel_rfl) (by kernel_rfl) (fun _ _ _ h => h) ⟨.inl ⟨by rfl, ?_⟩, fun _ => rfl⟩ hS5 ?_
        rotate_left
        · intro W hW; obtain ⟨g1, g2, g5, g6⟩ := hSof' W hW; go_simp; (try with_reducible rfl)
        simp only [Act.put]
        refine wpAnyK_take (i := 5) (v := ?_) rfl rfl (by kernel_rfl) (by kernel_rfl) (by kernel_rfl) (fun _ _ _ h => h) ⟨.inl ⟨by rfl, ?_⟩, fun _ => rfl⟩ hS5 ?_
        rotate_left
        · intro W hW; obtain ⟨g1, g2, g5, g6⟩ := hSof' W hW; go_simp; (try with_reducible rfl)
        simp only [Act.put]
        refine wpAnyK_take (i := 6) (v := ?_) rfl rfl (by kernel_rfl) (by kernel_rfl) (by kernel_rfl) (fun _ _ _ h => h) ⟨.inl ⟨by rfl, ?_⟩, fun _ => rfl⟩ hS5 ?_
        rotate_left
        · intro W hW; obtain ⟨g1, g2, g5, g6⟩ := hSof' W hW; go_simp; (try with_reducible rfl)
        simp only [Act.put]
        refine wpAnyK_one (i := 0) (by kernel_rfl) rfl (fun K hK => ?_)
        go_simp
        refine hK.out _ _ hS5 ?_
        clear hK K
        refine wpAnyK_one (i := 7) (by kernel_rfl) rfl (fun K hK => ?_)
        go_simp
        refine ⟨trivial, CallsIn.mono (callsIn_wide.2 con3) ?_⟩
        rintro e w5 ⟨v5, rfl, hb5, hr5⟩
        obtain ⟨rfl, hq5, hq6⟩ := rep_pt hr5
        have J5 := hB _ _ W4.drew w5 (hB _ _ W4 W4.drew J4 (Below.refl _ _).drew) hb5
        have hlt4 : ∀ x, (x < W2.heap.size → W4.heap[x]? = W2.heap[x]? → x < W4.heap.size) := fun x h1 h2 => by
          rw [Array.getElem?_eq_getElem h1] at h2
          exact (Array.getElem?_eq_some_iff.1 h2).1
        have r6 := (hb5.block _ (hlt4 _ hn1 b6)).trans b6
        have r3 := (hb5.block _ (hlt4 _ ha1 b3)).trans b3
        have hS6 : S' w5 := hSto' w5 r6 (((hJ _ _ w5 J5).2.2 Bs (bo + 3) s3).trans c3') (((hJ _ _ w5 J5).2.2 b2 (o2 + k) hs2).trans hd2')
        simp only []
        refine hK.out _ _ hS6 ?_
        clear hK K
        have r3' := r3.trans hat2
        have fz0 : w5.frozen? ⟨W0.heap.size, 0, none⟩ = false := by simp [World.frozen?, r3']
        have fz1 : w5.frozen? ⟨W0.heap.size, 1, none⟩ = false := by simp [World.frozen?, r3']
        obtain ⟨hT6, hat6⟩ := turn_set2 (.string ⟨(rt (p.at' (k + 1)).1).toArray⟩) (.string ⟨(rt (p.at' (k + 1)).2).toArray⟩) r3'
        have J6 := hT _ _ w5 _ _ J5 (.inl hBat) hT6
        have hne6 : w1.heap.size ≠ W0.heap.size := by
          have h1 := hb1.size
          have h2 := (Array.getElem?_eq_some_iff.1 hat).1
          omega
        refine wpAnyK_one (i := 8) (by kernel_rfl) rfl (fun K hK => ?_)
        go_simp
        refine hK.out _ _ ?_ ?_
        · exact hSto' _ ((hT6.2.2.1 _ hne6).trans r6) (((hJ _ _ _ J6).2.2 Bs (bo + 3) s3).trans c3') (((hJ _ _ _ J6).2.2 b2 (o2 + k) hs2).trans hd2')
        clear hK K
        refine wpAnyK_done (by kernel_rfl) ?_ _
        generalize hW6 : ((w5.setCell ⟨W0.heap.size, 0, none⟩ (.string ⟨(rt (p.at' (k + 1)).1).toArray⟩)).setCell ⟨W0.heap.size, 1, none⟩ (.string ⟨(rt (p.at' (k + 1)).2).toArray⟩)) = W6 at *
        have hW6' : ((w5.setCell ⟨W0.heap.size, 0, none⟩ (.string ⟨(rt (pl (p.at' k) (Kk.dirK (p.t k)) (p.l k)).1).toArray⟩)).setCell ⟨W0.heap.size, 1, none⟩ (.string ⟨(rt (pl (p.at' k) (Kk.dirK (p.t k)) (p.l k)).2).toArray⟩)) = W6 := hW6
        rw [hW6']
        clear hW6 hW6'
        gi_wp2
        exact ⟨⟨k + 1, by omega, by congr 1, _, J6, .inl hBat, hat6⟩, by simp only [intOf]; omega⟩
    · obtain rfl : k = p.n := by omega
      gi_wp2
      go_end0
      exact ⟨⟨_, rfl⟩, .inl ⟨B, by rw [lst_len]; exact hJB⟩⟩

end Go.Proofs

/- The pure readings of functions of this seat, printed by program (pcfile.py). Own work. -/
namespace Go.Proofs
open Go Go.Pi Go.RowKit
set_option maxRecDepth 100000

/-- klippe/kink.ends -/
def pc60 : PC := .seq (.reg [
   ⟨some 1, .bx 4 (.v 0), none⟩,
   ⟨some 2, .nil 52, none⟩] [1, 1000003])
 (.seq (.reg [
    ⟨some 3, .alG 52, none⟩] [1, 3, 1000003])
  (.seq (.reg [
     ⟨some 4, .alloc [.str [], .str [], .str [], .str [], .str [], .str [], .str []], none⟩] [1, 3, 4, 1000003])
   (.seq (.seq (.reg [
       ⟨some 8, .ld true 4 (.v 1), none⟩,
       ⟨some 9, .call 73 [.v 8], none⟩] [3, 4, 9, 1000003])
     (.blk 0 (.cus [5, 6, 7, 10, 11, 12, 13, 14, 15, 16, 17, 18, 19, 20, 21, 22, 23, 24, 25, 26, 27, 28, 29, 30, 31, 32, 33, 34, 35, 36, 37, 38, 39, 40, 41, 42, 43] (seqT (Con Tryz.prog Tryz.L) 115 sq115 9 10 11
       (.seq (.reg [
          ⟨some 5, .cp (.v 10), none⟩] [3, 4, 5, 9, 11, 1000003])
        (.reg [
          ⟨some 6, .alloc [.str [], .str [], .str [], .str [], .str [], .str [], .str []], none⟩,
          ⟨none, .st 7 (.v 6) (.v 11), none⟩] [3, 4, 5, 6, 9, 1000003]))
       (.blk 1 (.seq (.seq (.reg [
            ⟨some 12, .cp (.v 5), none⟩,
            ⟨some 13, .ci .eql (.v 12) (.k (.int .i64 0)), none⟩] [3, 4, 6, 9, 13, 1000003])
          (.cnd (.v 13) (.reg [
             ⟨some 14, .lg 3, none⟩,
             ⟨some 15, .fa 4 (.v 6), none⟩,
             ⟨some 16, .ld true 2 (.o 15 6), none⟩,
             ⟨some 17, .fa 2 (.v 6), none⟩,
             ⟨some 18, .ld true 2 (.o 17 6), none⟩,
             ⟨some 19, .bld [.str [], .str [], .str [], .str []] [(0, 2, .v 16), (2, 2, .v 18)], none⟩,
             ⟨some 20, .bldS 52 [.str [], .str [], .str [], .str []] 1 [(0, 4, .v 19)], none⟩,
             ⟨some 21, .app 52 4 64 (.o 14 1000003) (.v 20), none⟩,
             ⟨none, .sgO 3 (.v 21) [14], none⟩] [3, 4, 6, 9, 1000003])
           (.seq (.reg [
              ⟨some 22, .fa 2 (.v 4), none⟩,
              ⟨some 23, .ld true 2 (.o 22 4), none⟩,
              ⟨some 24, .fa 2 (.v 6), none⟩,
              ⟨some 25, .ld true 2 (.o 24 6), none⟩,
              ⟨some 26, .call 74 [.v 23, .v 25], none⟩,
              ⟨some 27, .call 23 [.k (.str [49]), .v 26], none⟩,
              ⟨some 28, .call 63 [.k (.str [49]), .v 27], none⟩,
              ⟨some 7, .cp (.v 28), none⟩] [3, 4, 6, 7, 9, 1000003])
            (.reg [
              ⟨some 29, .lg 3, none⟩,
              ⟨some 30, .fa 4 (.v 6), none⟩,
              ⟨some 31, .ld true 2 (.o 30 6), none⟩,
              ⟨some 32, .bld [.str [], .str []] [(0, 1, .k (.str [48])), (1, 1, .k (.str [48]))], none⟩,
              ⟨some 33, .fa 2 (.v 4), none⟩,
              ⟨some 34, .ld true 2 (.o 33 4), none⟩,
              ⟨some 35, .fa 2 (.v 6), none⟩,
              ⟨some 36, .ld true 2 (.o 35 6), none⟩,
              ⟨some 37, .call 83 [.v 34, .v 36, .k (.str [49])], none⟩,
              ⟨some 38, .cp (.v 7), none⟩,
              ⟨some 39, .call 83 [.v 32, .v 37, .v 38], none⟩,
              ⟨some 40, .bld [.str [], .str [], .str [], .str []] [(0, 2, .v 31), (2, 2, .v 39)], none⟩,
              ⟨some 41, .bldS 52 [.str [], .str [], .str [], .str []] 1 [(0, 4, .v 40)], none⟩,
              ⟨some 42, .app 52 4 64 (.o 29 1000003) (.v 41), none⟩,
              ⟨none, .sgO 3 (.v 42) [29], none⟩] [3, 4, 6, 9, 1000003]))))
         (.reg [
           ⟨some 43, .ld true 7 (.v 6), none⟩,
           ⟨none, .st 7 (.v 4) (.v 43), none⟩] [3, 4, 9, 1000003]))) [3, 4, 9, 1000003]))))
    (.seq (.reg [
       ⟨some 44, .lg 3, none⟩,
       ⟨some 45, .fa 4 (.v 4), none⟩,
       ⟨some 46, .ld true 2 (.o 45 4), none⟩,
       ⟨some 47, .fa 0 (.v 4), none⟩,
       ⟨some 48, .ld true 2 (.o 47 4), none⟩,
       ⟨some 49, .fa 6 (.v 4), none⟩,
       ⟨some 50, .ld false 1 (.o 49 4), none⟩,
       ⟨some 51, .call 83 [.v 46, .v 48, .v 50], none⟩,
       ⟨some 52, .fa 2 (.v 4), none⟩,
       ⟨some 53, .ld true 2 (.o 52 4), none⟩,
       ⟨some 54, .bld [.str [], .str [], .str [], .str []] [(0, 2, .v 51), (2, 2, .v 53)], none⟩,
       ⟨some 55, .bldS 52 [.str [], .str [], .str [], .str []] 1 [(0, 4, .v 54)], none⟩,
       ⟨some 56, .app 52 4 64 (.o 44 1000003) (.v 55), none⟩,
       ⟨some 2, .tk 56, none⟩] [2])
     (.ret)))))
def rs60 : List RV := [.t 2]
theorem chk60 : chkFnR Tryz.prog Tryz.f60 1 pc60 rs60 = true := by kernel_rfl
theorem rule60 {L : World → Prop} (hL : ∀ w w', L w → Below w.heap.size w w' → L w') (hbk : ∀ q ∈ pc60.backs, IsBack Tryz.prog q.1 q.2.1 q.2.2) (hcu : ∀ c, Tryz.f60.body = some c → ∀ q ∈ cusL c pc60, CusOk Tryz.prog L q.1 q.2.1 q.2.2) {ds : List D} {r : D} (hr0 : aliasOf r = none) (hlen : ds.length = 1) (hp : ds.all (fun d => (aliasOf d).isNone) = true)
    (h : wC (Con Tryz.prog L) pc60 (retQ rs60 r) (initE 0 ds)) : Con Tryz.prog L 60 ds r :=
  con_chkR hL Tryz.func60 chk60 hbk hcu hr0 hlen hp (wC_sound h)

/-- klippe/kink.growths -/
def pc62 : PC := .seq (.reg [
   ⟨some 1, .bx 4 (.v 0), none⟩,
   ⟨some 2, .nil 22, none⟩] [1, 1000003, 1000004])
 (.seq (.reg [
    ⟨some 7, .ld true 4 (.v 1), none⟩,
    ⟨some 8, .call 60 [.v 7], none⟩,
    ⟨some 3, .alG 52, none⟩,
    ⟨none, .sgO 3 (.v 8) [], none⟩] [1, 3, 1000003, 1000004])
  (.seq (.reg [
     ⟨some 4, .alG 22, none⟩] [1, 3, 4, 1000003, 1000004])
   (.seq (.seq (.reg [
       ⟨some 9, .ld true 4 (.v 1), none⟩,
       ⟨some 10, .call 73 [.v 9], none⟩] [3, 4, 10, 1000003, 1000004])
     (.blk 0 (.cus [5, 6, 11, 12, 13, 14, 15, 16, 17, 18, 19, 20, 21, 22, 23, 24, 25, 26, 27, 28, 29, 30] (seqT (Con Tryz.prog Tryz.L) 115 sq115 10 11 12
       (.seq (.reg [
          ⟨some 5, .cp (.v 11), none⟩] [3, 4, 5, 10, 12, 1000003, 1000004])
        (.reg [
          ⟨some 6, .alloc [.str [], .str [], .str [], .str [], .str [], .str [], .str []], none⟩,
          ⟨none, .st 7 (.v 6) (.v 12), none⟩] [3, 4, 5, 6, 10, 1000003, 1000004]))
       (.blk 1 (.reg [
          ⟨some 13, .lg 4, none⟩,
          ⟨some 14, .fa 0 (.v 6), none⟩,
          ⟨some 15, .ld true 2 (.o 14 6), none⟩,
          ⟨some 16, .lg 3, none⟩,
          ⟨some 17, .cp (.v 5), none⟩,
          ⟨some 18, .ari .add .i64 (.v 17) (.k (.int .i64 1)), none⟩,
          ⟨some 19, .ia 4 (.o 16 1000003) (.v 18), none⟩,
          ⟨some 20, .fa 2 (.o 19 1000003), none⟩,
          ⟨some 21, .ld true 2 (.o 20 1000003), none⟩,
          ⟨some 22, .lg 3, none⟩,
          ⟨some 23, .cp (.v 5), none⟩,
          ⟨some 24, .ia 4 (.o 22 1000003) (.v 23), none⟩,
          ⟨some 25, .fa 2 (.o 24 1000003), none⟩,
          ⟨some 26, .ld true 2 (.o 25 1000003), none⟩,
          ⟨some 27, .call 75 [.v 21, .v 26], none⟩,
          ⟨some 28, .call 74 [.v 15, .v 27], none⟩,
          ⟨some 29, .bldS 22 [.str []] 1 [(0, 1, .v 28)], none⟩,
          ⟨some 30, .app 22 1 16 (.o 13 1000004) (.v 29), none⟩,
          ⟨none, .sgO 4 (.v 30) [13], none⟩] [3, 4, 10, 1000003, 1000004])) [3, 4, 10, 1000003, 1000004]))))
    (.seq (.reg [
       ⟨some 31, .lg 4, none⟩,
       ⟨some 2, .sh (.o 31 1000004), none⟩] [2])
     (.ret)))))
def rs62 : List RV := [.t 2]
theorem chk62 : chkFnR Tryz.prog Tryz.f62 1 pc62 rs62 = true := by kernel_rfl
theorem rule62 {L : World → Prop} (hL : ∀ w w', L w → Below w.heap.size w w' → L w') (hbk : ∀ q ∈ pc62.backs, IsBack Tryz.prog q.1 q.2.1 q.2.2) (hcu : ∀ c, Tryz.f62.body = some c → ∀ q ∈ cusL c pc62, CusOk Tryz.prog L q.1 q.2.1 q.2.2) {ds : List D} {r : D} (hr0 : aliasOf r = none) (hlen : ds.length = 1) (hp : ds.all (fun d => (aliasOf d).isNone) = true)
    (h : wC (Con Tryz.prog L) pc62 (retQ rs62 r) (initE 0 ds)) : Con Tryz.prog L 62 ds r :=
  con_chkR hL Tryz.func62 chk62 hbk hcu hr0 hlen hp (wC_sound h)

/-- klippe/kink.Fold -/
def pc34 : PC := .seq (.reg [
   ⟨some 2, .bx 4 (.v 0), none⟩,
   ⟨some 3, .bx 2 (.v 1), none⟩,
   ⟨some 4, .alloc [.str [], .str []], none⟩,
   ⟨some 5, .alloc [.int .i64 0], none⟩] [2, 3, 4, 5, 1000009, 1000010])
 (.seq (.seq (.reg [
     ⟨some 13, .ld true 4 (.v 2), none⟩,
     ⟨some 14, .call 42 [.v 13], none⟩,
     ⟨some 6, .cp (.v 14), none⟩] [2, 3, 4, 5, 6, 1000009, 1000010])
   (.seq (.reg [
      ⟨some 15, .cp (.v 6), none⟩,
      ⟨some 16, .ci .neq (.v 15) (.k (.int .i64 0)), none⟩] [2, 3, 4, 5, 6, 16, 1000009, 1000010])
    (.cnd (.v 16) (.seq (.reg [
        ⟨some 17, .bld [.str [], .str []] [], none⟩,
        ⟨some 18, .cp (.v 6), none⟩,
        ⟨none, .st 2 (.v 4) (.v 17), none⟩,
        ⟨none, .st 1 (.v 5) (.v 18), none⟩] [4, 5])
      (.ret))
     (.skip))))
  (.seq (.seq (.reg [
      ⟨some 19, .ld true 2 (.v 3), none⟩,
      ⟨some 20, .call 61 [.v 19], none⟩,
      ⟨some 7, .cp (.v 20), none⟩] [2, 3, 4, 5, 7, 1000009, 1000010])
    (.seq (.reg [
       ⟨some 21, .cp (.v 7), none⟩,
       ⟨some 22, .ci .neq (.v 21) (.k (.int .i64 0)), none⟩] [2, 3, 4, 5, 7, 22, 1000009, 1000010])
     (.cnd (.v 22) (.seq (.reg [
         ⟨some 23, .bld [.str [], .str []] [], none⟩,
         ⟨some 24, .cp (.v 7), none⟩,
         ⟨none, .st 2 (.v 4) (.v 23), none⟩,
         ⟨none, .st 1 (.v 5) (.v 24), none⟩] [4, 5])
       (.ret))
      (.skip))))
   (.seq (.seq (.reg [
       ⟨some 25, .ld true 4 (.v 2), none⟩,
       ⟨some 26, .fa 1 (.v 3), none⟩,
       ⟨some 27, .ld false 1 (.o 26 3), none⟩,
       ⟨some 28, .call 76 [.v 25, .v 27], none⟩,
       ⟨some 29, .not (.v 28), none⟩] [2, 3, 4, 5, 29, 1000009, 1000010])
     (.cnd (.v 29) (.seq (.reg [
         ⟨some 30, .bld [.str [], .str []] [], none⟩,
         ⟨none, .st 2 (.v 4) (.v 30), none⟩,
         ⟨none, .st 1 (.v 5) (.k (.int .i64 3)), none⟩] [4, 5])
       (.ret))
      (.skip)))
    (.seq (.reg [
       ⟨some 31, .fa 0 (.v 3), none⟩,
       ⟨some 32, .ld false 1 (.o 31 3), none⟩,
       ⟨some 8, .alloc [.str []], none⟩,
       ⟨none, .st 1 (.v 8) (.v 32), none⟩] [2, 3, 4, 5, 8, 1000009, 1000010])
     (.seq (.seq (.reg [
         ⟨some 33, .ld false 1 (.v 8), none⟩,
         ⟨some 34, .call 35 [.v 33], none⟩,
         ⟨some 35, .ci .lss (.v 34) (.k (.int .i64 0)), none⟩] [2, 3, 4, 5, 8, 35, 1000009, 1000010])
       (.cnd (.v 35) (.seq (.reg [
           ⟨some 36, .bld [.str [], .str []] [], none⟩,
           ⟨none, .st 2 (.v 4) (.v 36), none⟩,
           ⟨none, .st 1 (.v 5) (.k (.int .i64 28)), none⟩] [4, 5])
         (.ret))
        (.skip)))
      (.seq (.reg [
         ⟨some 37, .ld true 4 (.v 2), none⟩,
         ⟨some 38, .fa 1 (.v 3), none⟩,
         ⟨some 39, .ld false 1 (.o 38 3), none⟩,
         ⟨some 40, .call 77 [.v 37, .v 39], none⟩,
         ⟨some 9, .alG 25, none⟩,
         ⟨none, .sgO 9 (.v 40) [], none⟩] [2, 3, 4, 5, 8, 9, 1000009, 1000010])
       (.seq (.reg [
          ⟨some 41, .ld true 4 (.v 2), none⟩,
          ⟨some 42, .fa 1 (.v 3), none⟩,
          ⟨some 43, .ld false 1 (.o 42 3), none⟩,
          ⟨some 44, .call 78 [.v 41, .v 43], none⟩,
          ⟨some 10, .alG 22, none⟩,
          ⟨none, .sgO 10 (.v 44) [], none⟩] [2, 4, 5, 8, 9, 10, 1000009, 1000010])
        (.seq (.seq (.reg [
            ⟨some 45, .ld true 4 (.v 2), none⟩,
            ⟨some 46, .call 73 [.v 45], none⟩] [4, 5, 8, 9, 10, 46, 1000009, 1000010])
          (.blk 0 (.cus [11, 12, 47, 48, 49, 50, 51, 52, 53, 54, 55, 56, 57, 58, 59, 60, 61, 62, 63, 64, 65, 66, 67, 68, 69, 70, 71, 72] (seqT (Con Tryz.prog Tryz.L) 115 sq115 46 47 48
            (.seq (.reg [
               ⟨some 11, .cp (.v 47), none⟩] [4, 5, 8, 9, 10, 11, 46, 48, 1000009, 1000010])
             (.reg [
               ⟨some 12, .alloc [.str [], .str [], .str [], .str [], .str [], .str [], .str []], none⟩,
               ⟨none, .st 7 (.v 12) (.v 48), none⟩] [4, 5, 8, 9, 10, 11, 12, 46, 1000009, 1000010]))
            (.blk 1 (.seq (.seq (.reg [
                 ⟨some 49, .ld false 1 (.v 8), none⟩,
                 ⟨some 50, .lg 10, none⟩,
                 ⟨some 51, .cp (.v 11), none⟩,
                 ⟨some 52, .ia 1 (.o 50 1000010) (.v 51), none⟩,
                 ⟨some 53, .ld false 1 (.o 52 1000010), none⟩,
                 ⟨some 54, .call 36 [.v 49, .v 53], none⟩,
                 ⟨some 55, .ci .leq (.v 54) (.k (.int .i64 0)), none⟩] [4, 5, 8, 9, 10, 11, 12, 46, 55, 1000009, 1000010])
               (.cnd (.v 55) (.seq (.reg [
                   ⟨some 56, .lg 9, none⟩,
                   ⟨some 57, .cp (.v 11), none⟩,
                   ⟨some 58, .ia 2 (.o 56 1000009) (.v 57), none⟩,
                   ⟨some 59, .ld true 2 (.o 58 1000009), none⟩,
                   ⟨some 60, .fa 0 (.v 12), none⟩,
                   ⟨some 61, .ld true 2 (.o 60 12), none⟩,
                   ⟨some 62, .ld false 1 (.v 8), none⟩,
                   ⟨some 63, .call 83 [.v 59, .v 61, .v 62], none⟩,
                   ⟨some 64, .call 55 [.v 63], none⟩,
                   ⟨some 65, .ext 64 0, none⟩,
                   ⟨some 66, .ext 64 1, none⟩,
                   ⟨none, .st 2 (.v 4) (.v 65), none⟩,
                   ⟨none, .st 1 (.v 5) (.v 66), none⟩] [4, 5])
                 (.ret))
                (.skip)))
              (.reg [
                ⟨some 67, .ld false 1 (.v 8), none⟩,
                ⟨some 68, .lg 10, none⟩,
                ⟨some 69, .cp (.v 11), none⟩,
                ⟨some 70, .ia 1 (.o 68 1000010) (.v 69), none⟩,
                ⟨some 71, .ld false 1 (.o 70 1000010), none⟩,
                ⟨some 72, .call 30 [.v 67, .v 71], none⟩,
                ⟨none, .st 1 (.v 8) (.v 72), none⟩] [4, 5, 8, 9, 10, 46, 1000009, 1000010]))) [4, 5, 8, 9, 10, 46, 1000009, 1000010]))))
         (.seq (.reg [
            ⟨some 73, .bld [.str [], .str []] [], none⟩,
            ⟨none, .st 2 (.v 4) (.v 73), none⟩,
            ⟨none, .st 1 (.v 5) (.k (.int .i64 28)), none⟩] [4, 5])
          (.ret))))))))))
def rs34 : List RV := [.c 4 true 2, .c 5 false 1]
theorem chk34 : chkFnR Tryz.prog Tryz.f34 2 pc34 rs34 = true := by kernel_rfl
theorem rule34 {L : World → Prop} (hL : ∀ w w', L w → Below w.heap.size w w' → L w') (hbk : ∀ q ∈ pc34.backs, IsBack Tryz.prog q.1 q.2.1 q.2.2) (hcu : ∀ c, Tryz.f34.body = some c → ∀ q ∈ cusL c pc34, CusOk Tryz.prog L q.1 q.2.1 q.2.2) {ds : List D} {r : D} (hr0 : aliasOf r = none) (hlen : ds.length = 2) (hp : ds.all (fun d => (aliasOf d).isNone) = true)
    (h : wC (Con Tryz.prog L) pc34 (retQ rs34 r) (initE 0 ds)) : Con Tryz.prog L 34 ds r :=
  con_chkR hL Tryz.func34 chk34 hbk hcu hr0 hlen hp (wC_sound h)

/-- klippe/kink.Unfold -/
def pc24 : PC := .seq (.reg [
   ⟨some 2, .bx 4 (.v 0), none⟩,
   ⟨some 3, .bx 2 (.v 1), none⟩,
   ⟨some 4, .alloc [.str [], .str []], none⟩,
   ⟨some 5, .alloc [.bool false], none⟩,
   ⟨some 6, .alloc [.int .i64 0], none⟩] [2, 3, 4, 5, 6])
 (.seq (.seq (.reg [
     ⟨some 16, .ld true 4 (.v 2), none⟩,
     ⟨some 17, .call 42 [.v 16], none⟩,
     ⟨some 7, .cp (.v 17), none⟩] [2, 3, 4, 5, 6, 7])
   (.seq (.reg [
      ⟨some 18, .cp (.v 7), none⟩,
      ⟨some 19, .ci .neq (.v 18) (.k (.int .i64 0)), none⟩] [2, 3, 4, 5, 6, 7, 19])
    (.cnd (.v 19) (.seq (.reg [
        ⟨some 20, .bld [.str [], .str []] [], none⟩,
        ⟨some 21, .cp (.v 7), none⟩,
        ⟨none, .st 2 (.v 4) (.v 20), none⟩,
        ⟨none, .st 1 (.v 5) (.k (.bool false)), none⟩,
        ⟨none, .st 1 (.v 6) (.v 21), none⟩] [4, 5, 6])
      (.ret))
     (.skip))))
  (.seq (.seq (.reg [
      ⟨some 22, .ld true 2 (.v 3), none⟩,
      ⟨some 23, .call 61 [.v 22], none⟩,
      ⟨some 8, .cp (.v 23), none⟩] [2, 3, 4, 5, 6, 8])
    (.seq (.reg [
       ⟨some 24, .cp (.v 8), none⟩,
       ⟨some 25, .ci .neq (.v 24) (.k (.int .i64 0)), none⟩] [2, 3, 4, 5, 6, 8, 25])
     (.cnd (.v 25) (.seq (.reg [
         ⟨some 26, .bld [.str [], .str []] [], none⟩,
         ⟨some 27, .cp (.v 8), none⟩,
         ⟨none, .st 2 (.v 4) (.v 26), none⟩,
         ⟨none, .st 1 (.v 5) (.k (.bool false)), none⟩,
         ⟨none, .st 1 (.v 6) (.v 27), none⟩] [4, 5, 6])
       (.ret))
      (.skip))))
   (.seq (.seq (.reg [
       ⟨some 28, .ld true 4 (.v 2), none⟩,
       ⟨some 29, .call 73 [.v 28], none⟩] [2, 3, 4, 5, 6, 29])
     (.blk 0 (.cus [9, 10, 11, 12, 13, 14, 15, 30, 31, 32, 33, 34, 35, 36, 37, 38, 39, 40, 41, 42, 43, 44, 45, 46, 47, 48, 49, 50, 51, 52, 53, 54, 55, 56, 57, 58, 59, 60, 61, 62, 63, 64, 65, 66, 67, 68, 69, 70, 71, 72, 73, 74, 75, 76, 77, 78, 79, 80, 81, 82, 83, 84] (seqT (Con Tryz.prog Tryz.L) 115 sq115 29 30 31
       (.seq (.reg [
          ⟨some 9, .cp (.v 30), none⟩] [2, 3, 4, 5, 6, 9, 29, 31])
        (.reg [
          ⟨some 10, .alloc [.str [], .str [], .str [], .str [], .str [], .str [], .str []], none⟩,
          ⟨none, .st 7 (.v 10) (.v 31), none⟩] [2, 3, 4, 5, 6, 9, 10, 29]))
       (.blk 1 (.seq (.reg [
           ⟨some 32, .fa 2 (.v 10), none⟩,
           ⟨some 33, .ld true 2 (.o 32 10), none⟩,
           ⟨some 34, .ld true 2 (.v 3), none⟩,
           ⟨some 35, .fa 4 (.v 10), none⟩,
           ⟨some 36, .ld true 2 (.o 35 10), none⟩,
           ⟨some 37, .call 75 [.v 34, .v 36], none⟩,
           ⟨some 38, .call 74 [.v 33, .v 37], none⟩,
           ⟨some 11, .cp (.v 38), none⟩] [2, 3, 4, 5, 6, 9, 10, 11, 29])
         (.seq (.seq (.reg [
             ⟨some 39, .ld true 4 (.v 2), none⟩,
             ⟨some 40, .cp (.v 11), none⟩,
             ⟨some 41, .call 76 [.v 39, .v 40], none⟩,
             ⟨some 42, .not (.v 41), none⟩] [2, 3, 4, 5, 6, 9, 10, 11, 29, 42])
           (.cnd (.v 42) (.exit 1)
            (.skip)))
          (.seq (.reg [
             ⟨some 43, .fa 0 (.v 10), none⟩,
             ⟨some 44, .ld true 2 (.o 43 10), none⟩,
             ⟨some 45, .ld true 2 (.v 3), none⟩,
             ⟨some 46, .ld true 4 (.v 2), none⟩,
             ⟨some 47, .cp (.v 11), none⟩,
             ⟨some 48, .call 77 [.v 46, .v 47], none⟩,
             ⟨some 49, .cp (.v 9), none⟩,
             ⟨some 50, .ia 2 (.v 48) (.v 49), none⟩,
             ⟨some 51, .ld true 2 (.o 50 48), none⟩,
             ⟨some 52, .call 75 [.v 45, .v 51], none⟩,
             ⟨some 53, .call 74 [.v 44, .v 52], none⟩,
             ⟨some 12, .cp (.v 53), none⟩] [2, 3, 4, 5, 6, 9, 11, 12, 29])
           (.seq (.reg [
              ⟨some 54, .ld true 4 (.v 2), none⟩,
              ⟨some 55, .cp (.v 11), none⟩,
              ⟨some 56, .call 78 [.v 54, .v 55], none⟩,
              ⟨some 13, .tk 56, none⟩] [2, 3, 4, 5, 6, 9, 11, 12, 13, 29])
            (.seq (.seq (.reg [
                ⟨some 57, .cp (.v 12), none⟩,
                ⟨some 58, .call 35 [.v 57], none⟩,
                ⟨some 59, .ci .lss (.v 58) (.k (.int .i64 0)), none⟩,
                ⟨some 60, .cp (.v 59), none⟩,
                ⟨some 61, .cp (.v 12), (some (60, false))⟩,
                ⟨some 62, .mv (.v 13), (some (60, false))⟩,
                ⟨some 63, .cp (.v 9), (some (60, false))⟩,
                ⟨some 64, .ia 1 (.o 62 13) (.v 63), (some (60, false))⟩,
                ⟨some 65, .ld false 1 (.o 64 13), (some (60, false))⟩,
                ⟨some 66, .call 36 [.v 61, .v 65], (some (60, false))⟩,
                ⟨some 67, .ci .gtr (.v 66) (.k (.int .i64 0)), (some (60, false))⟩,
                ⟨some 68, .pick (.v 60) (.k (.bool true)) (.v 67), none⟩] [2, 3, 4, 5, 6, 9, 11, 12, 13, 29, 68])
              (.cnd (.v 68) (.exit 1)
               (.skip)))
             (.seq (.reg [
                ⟨some 70, .tk 13, none⟩,
                ⟨some 71, .cp (.v 9), none⟩,
                ⟨some 72, .slc 1 (.v 70) none (some (.v 71)), none⟩,
                ⟨some 73, .call 79 [.v 72], none⟩,
                ⟨some 74, .cp (.v 12), none⟩,
                ⟨some 75, .call 23 [.v 73, .v 74], none⟩,
                ⟨some 76, .cp (.v 11), none⟩,
                ⟨some 77, .bld [.str [], .str []] [(0, 1, .v 75), (1, 1, .v 76)], none⟩,
                ⟨some 78, .call 55 [.v 77], none⟩,
                ⟨some 69, .cp (.v 78), none⟩,
                ⟨some 79, .ext 69 0, none⟩,
                ⟨some 80, .ext 69 1, none⟩,
                ⟨some 14, .alloc [.str [], .str []], none⟩,
                ⟨none, .st 2 (.v 14) (.v 79), none⟩,
                ⟨some 15, .cp (.v 80), none⟩] [4, 5, 6, 14, 15])
              (.seq (.reg [
                 ⟨some 81, .ld true 2 (.v 14), none⟩,
                 ⟨some 82, .cp (.v 15), none⟩,
                 ⟨some 83, .ci .eql (.v 82) (.k (.int .i64 0)), none⟩,
                 ⟨some 84, .cp (.v 15), none⟩,
                 ⟨none, .st 2 (.v 4) (.v 81), none⟩,
                 ⟨none, .st 1 (.v 5) (.v 83), none⟩,
                 ⟨none, .st 1 (.v 6) (.v 84), none⟩] [4, 5, 6])
               (.ret))))))))) [2, 3, 4, 5, 6, 29]))))
    (.seq (.reg [
       ⟨some 85, .bld [.str [], .str []] [], none⟩,
       ⟨none, .st 2 (.v 4) (.v 85), none⟩,
       ⟨none, .st 1 (.v 5) (.k (.bool false)), none⟩,
       ⟨none, .st 1 (.v 6) (.k (.int .i64 0)), none⟩] [4, 5, 6])
     (.ret)))))
def rs24 : List RV := [.c 4 true 2, .c 5 false 1, .c 6 false 1]
theorem chk24 : chkFnR Tryz.prog Tryz.f24 2 pc24 rs24 = true := by kernel_rfl
theorem rule24 {L : World → Prop} (hL : ∀ w w', L w → Below w.heap.size w w' → L w') (hbk : ∀ q ∈ pc24.backs, IsBack Tryz.prog q.1 q.2.1 q.2.2) (hcu : ∀ c, Tryz.f24.body = some c → ∀ q ∈ cusL c pc24, CusOk Tryz.prog L q.1 q.2.1 q.2.2) {ds : List D} {r : D} (hr0 : aliasOf r = none) (hlen : ds.length = 2) (hp : ds.all (fun d => (aliasOf d).isNone) = true)
    (h : wC (Con Tryz.prog L) pc24 (retQ rs24 r) (initE 0 ds)) : Con Tryz.prog L 24 ds r :=
  con_chkR hL Tryz.func24 chk24 hbk hcu hr0 hlen hp (wC_sound h)

end Go.Proofs

/-
  KINK: the ends of the domains, and how their lengths change. Own work.
-/
namespace Go.Proofs
open Go Go.Pi Go.RowKit Go.Ar Go.Ge Go.Kk

def axD (x : Pt × Pt) : List D := [.str (rt x.1.1), .str (rt x.1.2), .str (rt x.2.1), .str (rt x.2.2)]
def axs (p : Pf) (m : Nat) : List D := rows axD (lst m fun k => (p.at' k, p.ax k))
theorem axD_len (x : Pt × Pt) : (axD x).length = 4 := rfl
theorem axs_len (p : Pf) (m : Nat) : (axs p m).length = m * 4 := by unfold axs; rw [rows_length axD_len, lst_len]
theorem axs_succ (p : Pf) (m : Nat) : axs p (m + 1) = axs p m ++ axD (p.at' m, p.ax m) := by unfold axs; rw [lst_succ, rows_snoc]
theorem lst_some {α : Type} {n k : Nat} {f : Nat → α} {d : α} (h : (lst n f)[k]? = some d) : k < n ∧ d = f k := by
  have hk : k < n := by have := (List.getElem?_eq_some_iff.1 h).1; rw [lst_len] at this; exact this
  rw [lst_at f hk] at h
  exact ⟨hk, by cases h; rfl⟩

theorem Tryz.cuEnds : ∀ c, Tryz.f60.body = some c → ∀ q ∈ cusL c pc60, CusOk Tryz.prog Tryz.L q.1 q.2.1 q.2.2 := by
  intro c hc q hq
  cases Option.some.inj hc
  simp only [pc60, cusL, List.nil_append, List.append_nil, List.mem_singleton, List.cons_append] at hq
  subst hq
  exact seqT_ok Tryz.hL Tryz.seqDom (by kernel_rfl)
theorem Tryz.cuGrow : ∀ c, Tryz.f62.body = some c → ∀ q ∈ cusL c pc62, CusOk Tryz.prog Tryz.L q.1 q.2.1 q.2.2 := by
  intro c hc q hq
  cases Option.some.inj hc
  simp only [pc62, cusL, List.nil_append, List.append_nil, List.mem_singleton, List.cons_append] at hq
  subst hq
  exact seqT_ok Tryz.hL Tryz.seqDom (by kernel_rfl)

theorem ldC_axs {p : Pf} {m j t : Nat} {N : EP} {E : Env} (h : j < m) : ldC true 2 (List.drop (j * 4 + 2) (axs p m)) t N E = N (st1 E t (ptD (p.ax j))) := by
  obtain ⟨r, e⟩ := rows_at axD_len (lst_at (fun k => (p.at' k, p.ax k)) h)
  rw [← List.drop_drop]
  unfold axs
  rw [e, ldC_agg]
  simp [axD, ptD]

def lastD (p : Pf) : Nat → List D
  | 0 => [.str [], .str [], .str [], .str [], .str [], .str [], .str []]
  | k + 1 => dmD (p.dm k)

theorem rt0' : rt (0 : Rat) = [48] := by decide +kernel
theorem PSz.dir {p : Pf} (hp : PSz p) {k : Nat} (hk : k < p.n) : Sz 44 (dirK (p.t k)) := (Sz.dirK (hp.t k hk)).mono (by omega)
theorem PSz.nrm {p : Pf} (hp : PSz p) {k : Nat} (hk : k < p.n) : Sz 44 (nrm (p.t k)) := (hp.dir hk).up
theorem PSz.ne {p : Pf} (hp : PSz p) {k m : Nat} (hk : k < p.n) (hm : m < p.n) : 1 + p.t k * p.t m ≠ 0 := ne_tan ⟨(hp.ok k hk).1, (hp.ok k hk).2.1⟩ ⟨(hp.ok m hm).1, (hp.ok m hm).2.1⟩

set_option maxHeartbeats 8000000 in
theorem Tryz.kends (p : Pf) (hp : PSz p) : Con Tryz.prog Tryz.L 60 [.agg (pfD p)] (.own true 52 (p.n + 1) (axs p (p.n + 1))) := by
  have cd := Tryz.cdomains (L := Tryz.L) p
  refine rule60 Tryz.hL (fun q hq => by simp [PC.backs, pc60] at hq) Tryz.cuEnds rfl rfl rfl ?_
  simp only [pfD] at cd
  simp only [pfD, pc60, rs60, oU, oC, evX, evY, evZ, forall_const, implies_true, initE, stepF, D.clean, mvF, moF, tkF, shF, ariF, ciF, catF, scF, ebF, eqF, eqOk, eqPr, enF, notF, ngF, cvF, csF, csbF, lenF, lenSF, ixF, iaF, PX.slot, iaAF, faF, ldF, D.mem, stF, bxF, mkSF, boundF, fldF, ixAF, mmF2, D.plain, D.isPure, optAll, D.dull, callVF, splice, D.cells, D.one, sets, resT, D.flat, D.flat0, D.simple, Nat.reduceBNe, Nat.reduceLT, reduceIte, Nat.reduceEqDiff, Nat.reduceAdd, Nat.reduceMul, Nat.reduceSub, Nat.reduceLeDiff, Int.reduceToNat, Int.reduceLT, Int.reduceLE, Int.reduceEq, Int.reduceNeg, Int.reduceSub, Int.reduceAdd, Int.reduceMul, stG_own]
  refine callF_of cd ?_
  (refine ev ?_; try with_reducible exact trivial)
  refine seqT_of (lst p.n fun k => .agg (dmD (p.dm k))) (fun k E1 => E1 = [(3, .gbox 1000003), (4, .box true (lastD p k)), (9, .clo 115 [.pt (pfD p)]), (1000003, .own true 52 k (axs p k))]) rfl ⟨p, rfl, hp, rfl⟩ rfl ?_ ?_ ?_
  · rintro k E1 rfl; rfl
  · rintro E1 rfl
    rw [lst_len]
    obtain ⟨m, hm⟩ : ∃ m, p.n = m + 1 := ⟨p.n - 1, by have := hp.n0; omega⟩
    have hn4 := hp.n
    have c := Tryz.kplus (p.at' m) (dirK (p.t m)) (p.l m) ((hp.at' m (by omega)).mono (by omega)) ((hp.dir (by omega)).mono (by omega)) (by have := hp.l m (by omega); omega)
    have hl := axs_len p (m + 1)
    have hz := axs_succ p (m + 1)
    have ha : p.ax (m + 1) = nrm (p.t m) := by unfold Pf.ax; rw [if_neg (by omega), if_pos hm.symm]; rfl
    rw [hm]
    rw [hz, ha]
    simp only [ptD] at c
    simp only [lastD, dmD, Pf.dm, evX, evY, evZ, forall_const, implies_true, initE, stepF, D.clean, mvF, moF, tkF, shF, ariF, ciF, catF, scF, ebF, eqF, eqOk, eqPr, enF, notF, ngF, cvF, csF, csbF, lenF, lenSF, ixF, iaF, PX.slot, iaAF, faF, ldF, D.mem, stF, bxF, mkSF, boundF, fldF, ixAF, mmF2, D.plain, D.isPure, optAll, D.dull, callVF, splice, D.cells, D.one, sets, resT, D.flat, D.flat0, D.simple, Nat.reduceBNe, Nat.reduceLT, reduceIte, Nat.reduceEqDiff, Nat.reduceAdd, Nat.reduceMul, Nat.reduceSub, Nat.reduceLeDiff, Int.reduceToNat, Int.reduceLT, Int.reduceLE, Int.reduceEq, Int.reduceNeg, Int.reduceSub, Int.reduceAdd, Int.reduceMul, stG_own]
    refine callF_of c ?_
    (refine ev ?_; try with_reducible exact trivial)
    exact ⟨by omega, by omega, rfl⟩
  · rintro k E1 d hd rfl
    obtain ⟨hk, rfl⟩ := lst_some hd
    refine ⟨rfl, ?_⟩
    have hn4 := hp.n
    have hl := axs_len p k
    cases k with
    | zero =>
      simp only [lastD, dmD, Pf.dm, evX, evY, evZ, forall_const, implies_true, initE, stepF, D.clean, mvF, moF, tkF, shF, ariF, ciF, catF, scF, ebF, eqF, eqOk, eqPr, enF, notF, ngF, cvF, csF, csbF, lenF, lenSF, ixF, iaF, PX.slot, iaAF, faF, ldF, D.mem, stF, bxF, mkSF, boundF, fldF, ixAF, mmF2, D.plain, D.isPure, optAll, D.dull, callVF, splice, D.cells, D.one, sets, resT, D.flat, D.flat0, D.simple, Nat.reduceBNe, Nat.reduceLT, reduceIte, Nat.reduceEqDiff, Nat.reduceAdd, Nat.reduceMul, Nat.reduceSub, Nat.reduceLeDiff, Int.reduceToNat, Int.reduceLT, Int.reduceLE, Int.reduceEq, Int.reduceNeg, Int.reduceSub, Int.reduceAdd, Int.reduceMul, stG_own, asgQ_nrm]
      refine ⟨fun _ => ?_, fun h => absurd rfl h⟩
      simp only [evX, evY, evZ, forall_const, implies_true, initE, stepF, D.clean, mvF, moF, tkF, shF, ariF, ciF, catF, scF, ebF, eqF, eqOk, eqPr, enF, notF, ngF, cvF, csF, csbF, lenF, lenSF, ixF, iaF, PX.slot, iaAF, faF, ldF, D.mem, stF, bxF, mkSF, boundF, fldF, ixAF, mmF2, D.plain, D.isPure, optAll, D.dull, callVF, splice, D.cells, D.one, sets, resT, D.flat, D.flat0, D.simple, Nat.reduceBNe, Nat.reduceLT, reduceIte, Nat.reduceEqDiff, Nat.reduceAdd, Nat.reduceMul, Nat.reduceSub, Nat.reduceLeDiff, Int.reduceToNat, Int.reduceLT, Int.reduceLE, Int.reduceEq, Int.reduceNeg, Int.reduceSub, Int.reduceAdd, Int.reduceMul, stG_own, bodQ_nrm]
      rw [axs_succ]; rfl
    | succ k =>
      have s1 := hp.nrm (show k < p.n by omega)
      have s2 := hp.nrm hk
      have hd1 := rd_dt s1 s2
      have hd2 := rd_add 1 (dt (nrm (p.t k)) (nrm (p.t (k + 1))))
      have hd3 := rd_div 1 (1 + dt (nrm (p.t k)) (nrm (p.t (k + 1))))
      rw [rd_one1] at hd2 hd3
      have hne := (dot_nn (hp.ne (show k < p.n by omega) hk)).1
      have c1 := Tryz.kdot _ _ (s1.mono (by omega)) (s2.mono (by omega))
      have c2 := Tryz.radd 1 (dt (nrm (p.t k)) (nrm (p.t (k + 1)))) (by rw [rd_one1]; omega) (by omega)
      have c3 := Tryz.kquo 1 (1 + dt (nrm (p.t k)) (nrm (p.t (k + 1)))) (by rw [rd_one1]; omega) (by omega) hne
      have c4 := Tryz.kplus _ _ 1 (s1.mono (by omega)) (s2.mono (by omega)) (by rw [rd_one1]; omega)
      have s3 := s1.pl s2 (Nat.le_of_eq rd_one1)
      have c5 := Tryz.kplus (0, 0) _ (1 / (1 + dt (nrm (p.t k)) (nrm (p.t (k + 1))))) (show Sz 2000 ((0 : Rat), (0 : Rat)) from ⟨by show rd (0 : Rat) ≤ _; rw [rd_zero0]; omega, by show rd (0 : Rat) ≤ _; rw [rd_zero0]; omega⟩) (s3.mono (by omega)) (by omega)
      simp only [ptD, rt1, rt0'] at c1 c2 c3 c4 c5
      simp only [lastD, dmD, Pf.dm, evX, evY, evZ, forall_const, implies_true, initE, stepF, D.clean, mvF, moF, tkF, shF, ariF, ciF, catF, scF, ebF, eqF, eqOk, eqPr, enF, notF, ngF, cvF, csF, csbF, lenF, lenSF, ixF, iaF, PX.slot, iaAF, faF, ldF, D.mem, stF, bxF, mkSF, boundF, fldF, ixAF, mmF2, D.plain, D.isPure, optAll, D.dull, callVF, splice, D.cells, D.one, sets, resT, D.flat, D.flat0, D.simple, Nat.reduceBNe, Nat.reduceLT, reduceIte, Nat.reduceEqDiff, Nat.reduceAdd, Nat.reduceMul, Nat.reduceSub, Nat.reduceLeDiff, Int.reduceToNat, Int.reduceLT, Int.reduceLE, Int.reduceEq, Int.reduceNeg, Int.reduceSub, Int.reduceAdd, Int.reduceMul, stG_own, asgQ_nrm]
      refine ⟨fun h => by omega, fun _ => ?_⟩
      refine callF_of c1 ?_
      (refine ev ?_; try with_reducible exact trivial)
      refine callF_of c2 ?_
      (refine ev ?_; try with_reducible exact trivial)
      refine callF_of c3 ?_
      (refine ev ?_; try with_reducible exact trivial)
      refine callF_of c4 ?_
      (refine ev ?_; try with_reducible exact trivial)
      refine callF_of c5 ?_
      (refine ev ?_; try with_reducible exact trivial)
      refine ⟨by omega, by omega, ?_⟩
      simp only [evX, evY, evZ, forall_const, implies_true, initE, stepF, D.clean, mvF, moF, tkF, shF, ariF, ciF, catF, scF, ebF, eqF, eqOk, eqPr, enF, notF, ngF, cvF, csF, csbF, lenF, lenSF, ixF, iaF, PX.slot, iaAF, faF, ldF, D.mem, stF, bxF, mkSF, boundF, fldF, ixAF, mmF2, D.plain, D.isPure, optAll, D.dull, callVF, splice, D.cells, D.one, sets, resT, D.flat, D.flat0, D.simple, Nat.reduceBNe, Nat.reduceLT, reduceIte, Nat.reduceEqDiff, Nat.reduceAdd, Nat.reduceMul, Nat.reduceSub, Nat.reduceLeDiff, Int.reduceToNat, Int.reduceLT, Int.reduceLE, Int.reduceEq, Int.reduceNeg, Int.reduceSub, Int.reduceAdd, Int.reduceMul, stG_own, bodQ_nrm]
      have ha : p.ax (k + 1) = avg (nrm (p.t k)) (nrm (p.t (k + 1))) := by unfold Pf.ax; rw [if_neg (by omega), if_neg (by omega)]; rfl
      rw [axs_succ p (k + 1), ha]; rfl
theorem nms_succ (m : Nat) (f : Nat → Rat) : nms (m + 1) f = nms m f ++ [.str (rt (f m))] := lst_succ _ _
theorem nms_len (m : Nat) (f : Nat → Rat) : (nms m f).length = m := lst_len _ _

set_option maxHeartbeats 8000000 in
theorem Tryz.kgrow (p : Pf) (hp : PSz p) : Con Tryz.prog Tryz.L 62 [.agg (pfD p)] (.sl p.n (nms p.n p.gr)) := by
  have cd := Tryz.cdomains (L := Tryz.L) p
  have ce := Tryz.kends p hp
  refine rule62 Tryz.hL (fun q hq => by simp [PC.backs, pc62] at hq) Tryz.cuGrow rfl rfl rfl ?_
  simp only [pfD] at cd ce
  simp only [pfD, pc62, rs62, oU, oC, evX, evY, evZ, forall_const, implies_true, initE, stepF, D.clean, mvF, moF, tkF, shF, ariF, ciF, catF, scF, ebF, eqF, eqOk, eqPr, enF, notF, ngF, cvF, csF, csbF, lenF, lenSF, ixF, iaF, PX.slot, iaAF, faF, ldF, D.mem, stF, bxF, mkSF, boundF, fldF, ixAF, mmF2, D.plain, D.isPure, optAll, D.dull, callVF, splice, D.cells, D.one, sets, resT, D.flat, D.flat0, D.simple, Nat.reduceBNe, Nat.reduceLT, reduceIte, Nat.reduceEqDiff, Nat.reduceAdd, Nat.reduceMul, Nat.reduceSub, Nat.reduceLeDiff, Int.reduceToNat, Int.reduceLT, Int.reduceLE, Int.reduceEq, Int.reduceNeg, Int.reduceSub, Int.reduceAdd, Int.reduceMul, stG_own]
  refine callF_of ce ?_
  (refine ev ?_; try with_reducible exact trivial)
  refine callF_of cd ?_
  (refine ev ?_; try with_reducible exact trivial)
  refine seqT_of (lst p.n fun k => .agg (dmD (p.dm k))) (fun k E1 => E1 = [(3, .gbox 1000003), (4, .gbox 1000004), (10, .clo 115 [.pt (pfD p)]), (1000003, .own true 52 (p.n + 1) (axs p (p.n + 1))), (1000004, .own true 22 k (nms k p.gr))]) rfl ⟨p, rfl, hp, rfl⟩ rfl ?_ ?_ ?_
  · rintro k E1 rfl; rfl
  · rintro E1 rfl
    rw [lst_len]
    (refine ev ?_; try with_reducible exact trivial)
  · rintro k E1 d hd rfl
    obtain ⟨hk, rfl⟩ := lst_some hd
    refine ⟨rfl, ?_⟩
    have hn4 := hp.n
    have hl := axs_len p (p.n + 1)
    have e1 : ((k : Int) + 1).toNat = k + 1 := by omega
    have s1 := hp.ax (k + 1) (by omega)
    have s2 := hp.ax k (by omega)
    have c1 := Tryz.kminus (p.ax (k + 1)) (p.ax k) (s1.mono (by omega)) (s2.mono (by omega))
    have s3 := s1.mn s2
    have c2 := Tryz.kdot (dirK (p.t k)) (Kk.mn (p.ax (k + 1)) (p.ax k)) ((hp.dir hk).mono (by omega)) (s3.mono (by omega))
    simp only [ptD] at c1 c2
    simp only [dmD, Pf.dm, evX, evY, evZ, forall_const, implies_true, initE, stepF, D.clean, mvF, moF, tkF, shF, ariF, ciF, catF, scF, ebF, eqF, eqOk, eqPr, enF, notF, ngF, cvF, csF, csbF, lenF, lenSF, ixF, iaF, PX.slot, iaAF, faF, ldF, D.mem, stF, bxF, mkSF, boundF, fldF, ixAF, mmF2, D.plain, D.isPure, optAll, D.dull, callVF, splice, D.cells, D.one, sets, resT, D.flat, D.flat0, D.simple, Nat.reduceBNe, Nat.reduceLT, reduceIte, Nat.reduceEqDiff, Nat.reduceAdd, Nat.reduceMul, Nat.reduceSub, Nat.reduceLeDiff, Int.reduceToNat, Int.reduceLT, Int.reduceLE, Int.reduceEq, Int.reduceNeg, Int.reduceSub, Int.reduceAdd, Int.reduceMul, stG_own, asgQ_nrm]
    rw [e1, hl]
    refine ⟨by omega, by omega, ?_⟩
    rw [ldC_axs (by omega)]
    simp only [ptD, evX, evY, evZ, forall_const, implies_true, initE, stepF, D.clean, mvF, moF, tkF, shF, ariF, ciF, catF, scF, ebF, eqF, eqOk, eqPr, enF, notF, ngF, cvF, csF, csbF, lenF, lenSF, ixF, iaF, PX.slot, iaAF, faF, ldF, D.mem, stF, bxF, mkSF, boundF, fldF, ixAF, mmF2, D.plain, D.isPure, optAll, D.dull, callVF, splice, D.cells, D.one, sets, resT, D.flat, D.flat0, D.simple, Nat.reduceBNe, Nat.reduceLT, reduceIte, Nat.reduceEqDiff, Nat.reduceAdd, Nat.reduceMul, Nat.reduceSub, Nat.reduceLeDiff, Int.reduceToNat, Int.reduceLT, Int.reduceLE, Int.reduceEq, Int.reduceNeg, Int.reduceSub, Int.reduceAdd, Int.reduceMul, stG_own]
    rw [hl]
    refine ⟨by omega, ?_⟩
    rw [ldC_axs (by omega)]
    simp only [ptD, evX, evY, evZ, forall_const, implies_true, initE, stepF, D.clean, mvF, moF, tkF, shF, ariF, ciF, catF, scF, ebF, eqF, eqOk, eqPr, enF, notF, ngF, cvF, csF, csbF, lenF, lenSF, ixF, iaF, PX.slot, iaAF, faF, ldF, D.mem, stF, bxF, mkSF, boundF, fldF, ixAF, mmF2, D.plain, D.isPure, optAll, D.dull, callVF, splice, D.cells, D.one, sets, resT, D.flat, D.flat0, D.simple, Nat.reduceBNe, Nat.reduceLT, reduceIte, Nat.reduceEqDiff, Nat.reduceAdd, Nat.reduceMul, Nat.reduceSub, Nat.reduceLeDiff, Int.reduceToNat, Int.reduceLT, Int.reduceLE, Int.reduceEq, Int.reduceNeg, Int.reduceSub, Int.reduceAdd, Int.reduceMul, stG_own]
    refine callF_of c1 ?_
    (refine ev ?_; try with_reducible exact trivial)
    refine callF_of c2 ?_
    (refine ev ?_; try with_reducible exact trivial)
    refine ⟨by omega, by omega, ?_⟩
    simp only [evX, evY, evZ, forall_const, implies_true, initE, stepF, D.clean, mvF, moF, tkF, shF, ariF, ciF, catF, scF, ebF, eqF, eqOk, eqPr, enF, notF, ngF, cvF, csF, csbF, lenF, lenSF, ixF, iaF, PX.slot, iaAF, faF, ldF, D.mem, stF, bxF, mkSF, boundF, fldF, ixAF, mmF2, D.plain, D.isPure, optAll, D.dull, callVF, splice, D.cells, D.one, sets, resT, D.flat, D.flat0, D.simple, Nat.reduceBNe, Nat.reduceLT, reduceIte, Nat.reduceEqDiff, Nat.reduceAdd, Nat.reduceMul, Nat.reduceSub, Nat.reduceLeDiff, Int.reduceToNat, Int.reduceLT, Int.reduceLE, Int.reduceEq, Int.reduceNeg, Int.reduceSub, Int.reduceAdd, Int.reduceMul, stG_own, bodQ_nrm]
    rw [nms_succ]; rfl
end Go.Proofs

/-
  KINK: lengths, beds, the reach; sums. Own work.
-/
namespace Go.Proofs
open Go Go.Pi Go.RowKit Go.Ar Go.Ge Go.Kk

theorem ldC_nms {n k t : Nat} {f : Nat → Rat} {N : EP} {E : Env} : ldC false 1 (List.take 1 (List.drop k (nms n f))) t N E = (k < n ∧ N (st1 E t (.str (rt (f k))))) := by
  by_cases h : k < n
  · have e : List.drop k (nms n f) = .str (rt (f k)) :: List.drop (k + 1) (nms n f) := by
      rw [List.drop_eq_getElem_cons (by rw [nms_len]; exact h)]
      congr 1
      have := lst_at (fun k => D.str (rt (f k))) h
      exact Option.some.inj ((List.getElem?_eq_getElem (by rw [nms_len]; exact h)).symm.trans this)
    rw [e]
    simp [ldC, ofCells, D.one, h]
  · have e : List.drop k (nms n f) = [] := List.drop_eq_nil_of_le (by rw [nms_len]; omega)
    rw [e]
    simp [ldC, ofCells, h]
theorem ldC_nmsO {n k t : Nat} {f : Nat → Rat} {N : EP} {E : Env} : ldC false 1 (List.drop k (nms n f)) t N E = (k < n ∧ N (st1 E t (.str (rt (f k))))) := by
  by_cases h : k < n
  · have e : List.drop k (nms n f) = .str (rt (f k)) :: List.drop (k + 1) (nms n f) := by
      rw [List.drop_eq_getElem_cons (by rw [nms_len]; exact h)]
      congr 1
      have := lst_at (fun k => D.str (rt (f k))) h
      exact Option.some.inj ((List.getElem?_eq_getElem (by rw [nms_len]; exact h)).symm.trans this)
    rw [e]
    simp [ldC, ofCells, D.one, h]
  · have e : List.drop k (nms n f) = [] := List.drop_eq_nil_of_le (by rw [nms_len]; omega)
    rw [e]
    simp [ldC, ofCells, h]
theorem ldC_axsO {p : Pf} {m j t : Nat} {N : EP} {E : Env} : ldC true 4 (List.drop (j * 4) (axs p m)) t N E = (j < m ∧ N (st1 E t (.agg (axD (p.at' j, p.ax j))))) := by
  by_cases h : j < m
  · obtain ⟨r, e⟩ := rows_at axD_len (lst_at (fun k => (p.at' k, p.ax k)) h)
    unfold axs
    rw [e, ldC_agg]
    simp [axD, h]
  · have e : List.drop (j * 4) (axs p m) = [] := List.drop_eq_nil_of_le (by rw [axs_len]; omega)
    rw [e]
    simp [ldC, ofCells, h]
theorem sgn_le (q : Rat) : q.num.sign ≤ 0 ↔ ¬ 0 < q := by
  rcases sgn_cases q with ⟨h1, _, h3⟩ | ⟨h1, _, h3⟩ | ⟨h1, _, h3⟩ <;> rw [h3] <;> grind
theorem rd_ln {p : Pf} (hp : PSz p) {h : Rat} {m k : Nat} (hh : rd h ≤ m) (hk : k < p.n) : rd (p.ln h k) ≤ 111 + m := by
  have h1 := hp.gr k hk
  have h2 := hp.l k hk
  have h3 := rd_mul (p.gr k) h
  have h4 := rd_add (p.l k) (p.gr k * h)
  unfold Pf.ln; omega
theorem rd_sumN {f : Nat → Rat} {m : Nat} : ∀ {n : Nat}, (∀ k, k < n → rd (f k) ≤ m) → rd (sumN f n) ≤ 1 + n * (m + 1)
  | 0, _ => by simp [sumN, rd_zero0]
  | n + 1, h => by
    have h1 := rd_sumN (n := n) (fun k hk => h k (by omega))
    have h2 := h n (by omega)
    have h3 := rd_add (sumN f n) (f n)
    show rd (sumN f n + f n) ≤ _
    rw [Nat.succ_mul]; omega

set_option maxHeartbeats 4000000 in
theorem Tryz.klen (p : Pf) (hp : PSz p) (h : Rat) (hh : rd h ≤ 500) : Con Tryz.prog Tryz.L 78 [.agg (pfD p), .str (rt h)] (.own true 22 p.n (nms p.n (p.ln h))) := by
  have cg := Tryz.kgrow p hp
  have hn4 := hp.n
  refine rule78 Tryz.hL rfl rfl rfl ?_
  simp only [pfD] at cg
  simp only [pfD, pc78, rs78, oU, oC, evX, evY, evZ, forall_const, implies_true, initE, stepF, D.clean, mvF, moF, tkF, shF, ariF, ciF, catF, scF, ebF, eqF, eqOk, eqPr, enF, notF, ngF, cvF, csF, csbF, lenF, lenSF, ixF, iaF, PX.slot, iaAF, faF, ldF, D.mem, stF, bxF, mkSF, boundF, fldF, ixAF, mmF2, D.plain, D.isPure, optAll, D.dull, callVF, splice, D.cells, D.one, sets, resT, D.flat, D.flat0, D.simple, Nat.reduceBNe, Nat.reduceLT, reduceIte, Nat.reduceEqDiff, Nat.reduceAdd, Nat.reduceMul, Nat.reduceSub, Nat.reduceLeDiff, Int.reduceToNat, Int.reduceLT, Int.reduceLE, Int.reduceEq, Int.reduceNeg, Int.reduceSub, Int.reduceAdd, Int.reduceMul, stG_own]
  refine callF_of cg ?_
  (refine ev ?_; try with_reducible exact trivial)
  refine loopF_of (fun E => ∃ k : Nat, k ≤ p.n ∧ E = [(1, .str (rt h)), (2, .box true [.str (rt p.s.1), .str (rt p.s.2), .sl p.n (nms p.n p.t), .sl p.n (nms p.n p.l)]), (5, .own true 22 k (nms k (p.ln h))), (9, .sl p.n (nms p.n p.gr)), (10, .int .i64 p.n), (11, .int .i64 k)])
    (fun E => match lk E 11 with | .int _ i => p.n - i.toNat | _ => 0) ⟨0, Nat.zero_le _, rfl⟩ ?_
  rintro _ ⟨k, hk, rfl⟩
  simp only [evX, evY, evZ, forall_const, implies_true, initE, stepF, D.clean, mvF, moF, tkF, shF, ariF, ciF, catF, scF, ebF, eqF, eqOk, eqPr, enF, notF, ngF, cvF, csF, csbF, lenF, lenSF, ixF, iaF, PX.slot, iaAF, faF, ldF, D.mem, stF, bxF, mkSF, boundF, fldF, ixAF, mmF2, D.plain, D.isPure, optAll, D.dull, callVF, splice, D.cells, D.one, sets, resT, D.flat, D.flat0, D.simple, Nat.reduceBNe, Nat.reduceLT, reduceIte, Nat.reduceEqDiff, Nat.reduceAdd, Nat.reduceMul, Nat.reduceSub, Nat.reduceLeDiff, Int.reduceToNat, Int.reduceLT, Int.reduceLE, Int.reduceEq, Int.reduceNeg, Int.reduceSub, Int.reduceAdd, Int.reduceMul, stG_own, ldC_nms, nms_len]
  refine ⟨fun h3 => ?_, fun h3 => ?_⟩
  · have hk2 : k < p.n := by omega
    refine ⟨⟨by omega, by omega, by omega⟩, hk2, ⟨by omega, by omega, by omega⟩, hk2, ?_⟩
    have g1 := hp.gr k hk2
    have g2 := hp.l k hk2
    have g3 := rd_mul (p.gr k) h
    refine callF_of (Tryz.rmul (p.gr k) h (by omega) (by omega)) ?_
    (refine ev ?_; try with_reducible exact trivial)
    refine callF_of (Tryz.radd (p.l k) (p.gr k * h) (by omega) (by omega)) ?_
    (refine ev ?_; try with_reducible exact trivial)
    exact ⟨by omega, by omega, by omega, ⟨k + 1, by omega, by rw [nms_succ]; exact ⟨rfl, rfl⟩⟩, by omega⟩
  · obtain rfl : k = p.n := by omega
    rfl

set_option maxHeartbeats 4000000 in
theorem Tryz.kbed (p : Pf) (hp : PSz p) (h : Rat) (hh : rd h ≤ 500) : Con Tryz.prog Tryz.L 77 [.agg (pfD p), .str (rt h)] (.own true 25 (p.n + 1) (pts (lst (p.n + 1) (p.bd h)))) := by
  have cg := Tryz.kends p hp
  have hn4 := hp.n
  refine rule77 Tryz.hL rfl rfl rfl ?_
  simp only [pfD] at cg
  simp only [pfD, pc77, rs77, oU, oC, evX, evY, evZ, forall_const, implies_true, initE, stepF, D.clean, mvF, moF, tkF, shF, ariF, ciF, catF, scF, ebF, eqF, eqOk, eqPr, enF, notF, ngF, cvF, csF, csbF, lenF, lenSF, ixF, iaF, PX.slot, iaAF, faF, ldF, D.mem, stF, bxF, mkSF, boundF, fldF, ixAF, mmF2, D.plain, D.isPure, optAll, D.dull, callVF, splice, D.cells, D.one, sets, resT, D.flat, D.flat0, D.simple, Nat.reduceBNe, Nat.reduceLT, reduceIte, Nat.reduceEqDiff, Nat.reduceAdd, Nat.reduceMul, Nat.reduceSub, Nat.reduceLeDiff, Int.reduceToNat, Int.reduceLT, Int.reduceLE, Int.reduceEq, Int.reduceNeg, Int.reduceSub, Int.reduceAdd, Int.reduceMul, stG_own]
  refine callF_of cg ?_
  (refine ev ?_; try with_reducible exact trivial)
  refine loopF_of (fun E => ∃ k : Nat, k ≤ p.n + 1 ∧ E = [(1, .str (rt h)), (5, .own true 25 k (pts (lst k (p.bd h)))), (9, .own true 52 (p.n + 1) (axs p (p.n + 1))), (10, .int .i64 ((p.n + 1 : Nat) : Int)), (11, .int .i64 k)])
    (fun E => match lk E 11 with | .int _ i => p.n + 1 - i.toNat | _ => 0) ⟨0, Nat.zero_le _, rfl⟩ ?_
  rintro _ ⟨k, hk, rfl⟩
  have hl := axs_len p (p.n + 1)
  have hl2 := pts_len (lst k (p.bd h))
  rw [lst_len] at hl2
  simp only [evX, evY, evZ, forall_const, implies_true, initE, stepF, D.clean, mvF, moF, tkF, shF, ariF, ciF, catF, scF, ebF, eqF, eqOk, eqPr, enF, notF, ngF, cvF, csF, csbF, lenF, lenSF, ixF, iaF, PX.slot, iaAF, faF, ldF, D.mem, stF, bxF, mkSF, boundF, fldF, ixAF, mmF2, D.plain, D.isPure, optAll, D.dull, callVF, splice, D.cells, D.one, sets, resT, D.flat, D.flat0, D.simple, Nat.reduceBNe, Nat.reduceLT, reduceIte, Nat.reduceEqDiff, Nat.reduceAdd, Nat.reduceMul, Nat.reduceSub, Nat.reduceLeDiff, Int.reduceToNat, Int.reduceLT, Int.reduceLE, Int.reduceEq, Int.reduceNeg, Int.reduceSub, Int.reduceAdd, Int.reduceMul, stG_own, ldC_axsO, axD]
  refine ⟨fun h3 => ?_, fun h3 => ?_⟩
  · have hk2 : k < p.n + 1 := by omega
    rw [hl]
    refine ⟨⟨by omega, by omega, by omega⟩, hk2, ?_⟩
    have c := Tryz.kplus (p.at' k) (p.ax k) h ((hp.at' k (by omega)).mono (by omega)) ((hp.ax k (by omega)).mono (by omega)) (by omega)
    simp only [ptD] at c
    refine callF_of c ?_
    (refine ev ?_; try with_reducible exact trivial)
    exact ⟨by omega, by omega, by omega, ⟨k + 1, by omega, by rw [lst_succ, pts_snoc]; exact ⟨rfl, rfl⟩⟩, by omega⟩
  · obtain rfl : k = p.n + 1 := by omega
    rfl

set_option maxHeartbeats 4000000 in
theorem Tryz.kwithin (p : Pf) (hp : PSz p) (h : Rat) (hh : rd h ≤ 500) : Con Tryz.prog Tryz.L 76 [.agg (pfD p), .str (rt h)] (.bool (p.win h)) := by
  have cg := Tryz.klen p hp h hh
  have hn4 := hp.n
  refine rule76 Tryz.hL rfl rfl rfl ?_
  simp only [pfD] at cg
  simp only [pfD, pc76, rs76, oU, oC, evX, evY, evZ, forall_const, implies_true, initE, stepF, D.clean, mvF, moF, tkF, shF, ariF, ciF, catF, scF, ebF, eqF, eqOk, eqPr, enF, notF, ngF, cvF, csF, csbF, lenF, lenSF, ixF, iaF, PX.slot, iaAF, faF, ldF, D.mem, stF, bxF, mkSF, boundF, fldF, ixAF, mmF2, D.plain, D.isPure, optAll, D.dull, callVF, splice, D.cells, D.one, sets, resT, D.flat, D.flat0, D.simple, Nat.reduceBNe, Nat.reduceLT, reduceIte, Nat.reduceEqDiff, Nat.reduceAdd, Nat.reduceMul, Nat.reduceSub, Nat.reduceLeDiff, Int.reduceToNat, Int.reduceLT, Int.reduceLE, Int.reduceEq, Int.reduceNeg, Int.reduceSub, Int.reduceAdd, Int.reduceMul, stG_own]
  refine callF_of cg ?_
  (refine ev ?_; try with_reducible exact trivial)
  refine loopF_of (fun E => ∃ k : Nat, k ≤ p.n ∧ (∀ j, j < k → 0 < p.ln h j) ∧ E = [(9, .own true 22 p.n (nms p.n (p.ln h))), (10, .int .i64 p.n), (11, .int .i64 k)])
    (fun E => match lk E 11 with | .int _ i => p.n - i.toNat | _ => 0) ⟨0, Nat.zero_le _, fun j hj => absurd hj (by omega), rfl⟩ ?_
  rintro _ ⟨k, hk, hall, rfl⟩
  simp only [evX, evY, evZ, forall_const, implies_true, initE, stepF, D.clean, mvF, moF, tkF, shF, ariF, ciF, catF, scF, ebF, eqF, eqOk, eqPr, enF, notF, ngF, cvF, csF, csbF, lenF, lenSF, ixF, iaF, PX.slot, iaAF, faF, ldF, D.mem, stF, bxF, mkSF, boundF, fldF, ixAF, mmF2, D.plain, D.isPure, optAll, D.dull, callVF, splice, D.cells, D.one, sets, resT, D.flat, D.flat0, D.simple, Nat.reduceBNe, Nat.reduceLT, reduceIte, Nat.reduceEqDiff, Nat.reduceAdd, Nat.reduceMul, Nat.reduceSub, Nat.reduceLeDiff, Int.reduceToNat, Int.reduceLT, Int.reduceLE, Int.reduceEq, Int.reduceNeg, Int.reduceSub, Int.reduceAdd, Int.reduceMul, stG_own, ldC_nmsO, nms_len]
  refine ⟨fun h3 => ?_, fun h3 => ?_⟩
  · have hk2 : k < p.n := by omega
    refine ⟨⟨by omega, by omega, by omega⟩, hk2, ?_⟩
    have := rd_ln hp hh hk2
    refine callF_of (Tryz.rsign (p.ln h k) (by omega)) ?_
    (refine ev ?_; try with_reducible exact trivial)
    rw [sgn_le]
    refine ⟨fun h4 => ?_, fun h4 => ⟨by omega, ⟨k + 1, by omega, fun j hj => ?_, rfl⟩, by omega⟩⟩
    · have e : p.win h = false := by unfold Pf.win; rw [decide_eq_false_iff_not]; exact fun z => h4 (z k hk2)
      rw [e]
    · by_cases e : j = k
      · subst e; exact Classical.not_not.1 h4
      · exact hall j (by omega)
  · obtain rfl : k = p.n := by omega
    have e : p.win h = true := by unfold Pf.win; rw [decide_eq_true_iff]; exact hall
    rw [e]

theorem Tryz.ksum (n : Nat) (f : Nat → Rat) (hn : n ≤ 10) (hf : ∀ k, k < n → rd (f k) ≤ 450) : Con Tryz.prog Tryz.L 79 [.sl n (nms n f)] (.str (rt (sumN f n))) := by
  refine rule79 Tryz.hL rfl rfl rfl ?_
  (simp only [pc79, rs79, oU, oC]; refine ev ?_; try with_reducible exact trivial)
  refine loopF_of (fun E => ∃ k : Nat, k ≤ n ∧ E = [(3, .str (rt (sumN f k))), (6, .sl n (nms n f)), (7, .int .i64 n), (8, .int .i64 k)])
    (fun E => match lk E 8 with | .int _ i => n - i.toNat | _ => 0) ⟨0, Nat.zero_le _, by rw [show sumN f 0 = 0 from rfl, rt0']; rfl⟩ ?_
  rintro _ ⟨k, hk, rfl⟩
  simp only [evX, evY, evZ, forall_const, implies_true, initE, stepF, D.clean, mvF, moF, tkF, shF, ariF, ciF, catF, scF, ebF, eqF, eqOk, eqPr, enF, notF, ngF, cvF, csF, csbF, lenF, lenSF, ixF, iaF, PX.slot, iaAF, faF, ldF, D.mem, stF, bxF, mkSF, boundF, fldF, ixAF, mmF2, D.plain, D.isPure, optAll, D.dull, callVF, splice, D.cells, D.one, sets, resT, D.flat, D.flat0, D.simple, Nat.reduceBNe, Nat.reduceLT, reduceIte, Nat.reduceEqDiff, Nat.reduceAdd, Nat.reduceMul, Nat.reduceSub, Nat.reduceLeDiff, Int.reduceToNat, Int.reduceLT, Int.reduceLE, Int.reduceEq, Int.reduceNeg, Int.reduceSub, Int.reduceAdd, Int.reduceMul, stG_own, ldC_nms, nms_len]
  refine ⟨fun h3 => ?_, fun h3 => ?_⟩
  · have hk2 : k < n := by omega
    refine ⟨⟨by omega, by omega, by omega⟩, hk2, ?_⟩
    have h1 := hf k hk2
    have h2 := rd_sumN (f := f) (m := 450) (n := k) (fun j hj => hf j (by omega))
    have h3 : k * (450 + 1) ≤ 10 * 451 := Nat.mul_le_mul (by omega) (by omega)
    refine callF_of (Tryz.radd (sumN f k) (f k) (by omega) (by omega)) ?_
    (refine ev ?_; try with_reducible exact trivial)
    exact ⟨by omega, ⟨k + 1, by omega, ⟨rfl, rfl⟩⟩, by omega⟩
  · obtain rfl : k = n := by omega
    rfl

theorem Tryz.kmiddle (a b : Rat) (ha : rd a ≤ 2400) (hb : rd b ≤ 2400) : Con Tryz.prog Tryz.L 48 [.str (rt a), .str (rt b)] (.str (rt ((a + b) * (1 / 2)))) := by
  have h1 := rd_add a b
  have c := Tryz.rmul (a + b) (1 / 2) (by omega) (Nat.le_trans (show rd (1 / 2 : Rat) ≤ 1 by decide +kernel) (by omega))
  rw [show rt (1 / 2 : Rat) = [49, 47, 50] by decide +kernel] at c
  refine rule48 Tryz.hL rfl rfl rfl ?_
  (simp only [pc48, rs48, oU, oC]; refine ev ?_; try with_reducible exact trivial)
  refine callF_of (Tryz.radd a b (by omega) (by omega)) ?_
  (refine ev ?_; try with_reducible exact trivial)
  refine callF_of c ?_
  (refine ev ?_; try with_reducible exact trivial)
end Go.Proofs

/-
  KINK: vector.numbers and CheckPoint (as for the polylines). Own work.
-/
namespace Go.Proofs
open Go Go.Pi Go.RowKit Go.Ar Go.Ge

set_option maxHeartbeats 4000000 in
theorem Tryz.pnumbers (x y : Rat) (hx : rd x ≤ 200) (hy : rd y ≤ 200) : Con Tryz.prog Tryz.L 103 [.sl 2 [.str (rt x), .str (rt y)]] (.int .i64 0) := by
  refine rule103 Tryz.hL rfl rfl rfl ?_
  (simp only [pc103, rs103, oU, oC]; refine ev ?_; try with_reducible exact trivial)
  refine loopF_of (fun E => ∃ k : Nat, k ≤ 2 ∧ E = [(6, .sl 2 [.str (rt x), .str (rt y)]), (7, .int .i64 2), (8, .int .i64 k)])
    (fun E => match lk E 8 with | .int _ i => 2 - i.toNat | _ => 0) ⟨0, by omega, rfl⟩ ?_
  rintro _ ⟨k, hk, rfl⟩
  obtain rfl | rfl | rfl : k = 0 ∨ k = 1 ∨ k = 2 := by omega
  · (refine ev ?_; try with_reducible exact trivial)
    refine fun _ => ⟨⟨by decide, by decide⟩, ?_⟩
    refine callF_of (Tryz.rcheckQ x hx) ?_
    (refine ev ?_; try with_reducible exact trivial)
    refine ⟨⟨by decide, by decide⟩, ⟨1, by omega, rfl⟩, by decide⟩
  · (refine ev ?_; try with_reducible exact trivial)
    refine fun _ => ⟨⟨by decide, by decide⟩, ?_⟩
    refine callF_of (Tryz.rcheckQ y hy) ?_
    (refine ev ?_; try with_reducible exact trivial)
    refine ⟨⟨by decide, by decide⟩, ⟨2, by omega, rfl⟩, by decide⟩
  · (refine ev ?_; try with_reducible exact trivial)
    exact fun h => absurd h (by decide)
theorem Tryz.ppoint (p : Pt) (h : Sz 200 p) : Con Tryz.prog Tryz.L 61 [ptD p] (.int .i64 0) := by
  refine rule61 Tryz.hL rfl rfl rfl ?_
  simp only [ptD, pc61, rs61, oU, oC, evX, evY, evZ, forall_const, implies_true, initE, stepF, D.clean, mvF, moF, tkF, shF, ariF, ciF, catF, scF, ebF, eqF, eqOk, eqPr, enF, notF, ngF, cvF, csF, csbF, lenF, lenSF, ixF, iaF, PX.slot, iaAF, faF, ldF, D.mem, stF, bxF, mkSF, boundF, fldF, ixAF, mmF2, D.plain, D.isPure, optAll, D.dull, callVF, splice, D.cells, D.one, sets, resT, D.flat, D.flat0, D.simple, Nat.reduceBNe, Nat.reduceLT, reduceIte, Nat.reduceEqDiff, Nat.reduceAdd, Nat.reduceMul, Nat.reduceSub, Nat.reduceLeDiff, Int.reduceToNat, Int.reduceLT, Int.reduceLE, Int.reduceEq, Int.reduceNeg, Int.reduceSub, Int.reduceAdd, Int.reduceMul, stG_own]
  refine callF_of (Tryz.pnumbers p.1 p.2 h.1 h.2) ?_
  (refine ev ?_; try with_reducible exact trivial)
end Go.Proofs

/-
  KINK: right points and numbers; Check and the heights of a right profile. Own work.
-/
namespace Go.Proofs
open Go Go.Pi Go.RowKit Go.Ar Go.Ge Go.Kk

theorem Tryz.kplace (q : Pt) (h : Sz 200 q) : Con Tryz.prog Tryz.L 55 [ptD q] (.tup [ptD q, .int .i64 0]) := by
  have c := Tryz.ppoint q h
  refine rule55 Tryz.hL rfl rfl rfl ?_
  simp only [ptD] at c
  simp only [ptD, pc55, rs55, oU, oC, evX, evY, evZ, forall_const, implies_true, initE, stepF, D.clean, mvF, moF, tkF, shF, ariF, ciF, catF, scF, ebF, eqF, eqOk, eqPr, enF, notF, ngF, cvF, csF, csbF, lenF, lenSF, ixF, iaF, PX.slot, iaAF, faF, ldF, D.mem, stF, bxF, mkSF, boundF, fldF, ixAF, mmF2, D.plain, D.isPure, optAll, D.dull, callVF, splice, D.cells, D.one, sets, resT, D.flat, D.flat0, D.simple, Nat.reduceBNe, Nat.reduceLT, reduceIte, Nat.reduceEqDiff, Nat.reduceAdd, Nat.reduceMul, Nat.reduceSub, Nat.reduceLeDiff, Int.reduceToNat, Int.reduceLT, Int.reduceLE, Int.reduceEq, Int.reduceNeg, Int.reduceSub, Int.reduceAdd, Int.reduceMul, stG_own]
  refine callF_of c ?_
  (refine ev ?_; try with_reducible exact trivial)
  rfl
theorem Tryz.kresult (x : Rat) (h : rd x ≤ 200) : Con Tryz.prog Tryz.L 81 [.str (rt x)] (.tup [.str (rt x), .int .i64 0]) := by
  refine rule81 Tryz.hL rfl rfl rfl ?_
  (simp only [pc81, rs81, oU, oC]; refine ev ?_; try with_reducible exact trivial)
  refine callF_of (Tryz.rcheckQ x h) ?_
  (refine ev ?_; try with_reducible exact trivial)
  rfl
theorem Tryz.kplaces (n : Nat) (f : Nat → Pt) (hn : n ≤ 1000) (hf : ∀ k, k < n → Sz 200 (f k)) : Con Tryz.prog Tryz.L 82 [.sl n (pts (lst n f))] (.tup [.sl n (pts (lst n f)), .int .i64 0]) := by
  refine rule82 Tryz.hL rfl rfl rfl ?_
  (simp only [pc82, rs82, oU, oC]; refine ev ?_; try with_reducible exact trivial)
  refine loopF_of (fun E => ∃ k : Nat, k ≤ n ∧ E = [(0, .sl n (pts (lst n f))), (8, .sl n (pts (lst n f))), (9, .int .i64 n), (10, .int .i64 k)])
    (fun E => match lk E 10 with | .int _ i => n - i.toNat | _ => 0) ⟨0, Nat.zero_le _, rfl⟩ ?_
  rintro _ ⟨k, hk, rfl⟩
  have hl := pts_len (lst n f)
  rw [lst_len] at hl
  simp only [evX, evY, evZ, forall_const, implies_true, initE, stepF, D.clean, mvF, moF, tkF, shF, ariF, ciF, catF, scF, ebF, eqF, eqOk, eqPr, enF, notF, ngF, cvF, csF, csbF, lenF, lenSF, ixF, iaF, PX.slot, iaAF, faF, ldF, D.mem, stF, bxF, mkSF, boundF, fldF, ixAF, mmF2, D.plain, D.isPure, optAll, D.dull, callVF, splice, D.cells, D.one, sets, resT, D.flat, D.flat0, D.simple, Nat.reduceBNe, Nat.reduceLT, reduceIte, Nat.reduceEqDiff, Nat.reduceAdd, Nat.reduceMul, Nat.reduceSub, Nat.reduceLeDiff, Int.reduceToNat, Int.reduceLT, Int.reduceLE, Int.reduceEq, Int.reduceNeg, Int.reduceSub, Int.reduceAdd, Int.reduceMul, stG_own, ldC_pts, hl]
  refine ⟨fun h3 => ?_, fun h3 => ?_⟩
  · have hk2 : k < n := by omega
    refine ⟨⟨by omega, by omega, by omega⟩, f k, lst_at f hk2, ?_⟩
    have c := Tryz.kplace (f k) (hf k hk2)
    simp only [ptD] at c
    simp only [pD, evX, evY, evZ, forall_const, implies_true, initE, stepF, D.clean, mvF, moF, tkF, shF, ariF, ciF, catF, scF, ebF, eqF, eqOk, eqPr, enF, notF, ngF, cvF, csF, csbF, lenF, lenSF, ixF, iaF, PX.slot, iaAF, faF, ldF, D.mem, stF, bxF, mkSF, boundF, fldF, ixAF, mmF2, D.plain, D.isPure, optAll, D.dull, callVF, splice, D.cells, D.one, sets, resT, D.flat, D.flat0, D.simple, Nat.reduceBNe, Nat.reduceLT, reduceIte, Nat.reduceEqDiff, Nat.reduceAdd, Nat.reduceMul, Nat.reduceSub, Nat.reduceLeDiff, Int.reduceToNat, Int.reduceLT, Int.reduceLE, Int.reduceEq, Int.reduceNeg, Int.reduceSub, Int.reduceAdd, Int.reduceMul, stG_own]
    refine callF_of c ?_
    (refine ev ?_; try with_reducible exact trivial)
    exact ⟨by omega, ⟨k + 1, by omega, rfl⟩, by omega⟩
  · obtain rfl : k = n := by omega
    rfl

theorem cmp_abs {t : Rat} (h : -1 < t ∧ t < 1) : cmpQ (absQ t) 1 < 0 := by
  have e : absQ t < 1 := by unfold absQ; split <;> grind
  unfold cmpQ
  rw [if_pos e]; omega

set_option maxHeartbeats 4000000 in
theorem Tryz.kcheck (p : Pf) (hp : PSz p) : Con Tryz.prog Tryz.L 42 [.agg (pfD p)] (.int .i64 0) := by
  have c := Tryz.ppoint p.s ((hp.at' 0 (Nat.zero_le _)).mono (by omega))
  have hn4 := hp.n
  have hn0 := hp.n0
  refine rule42 Tryz.hL rfl rfl rfl ?_
  simp only [ptD] at c
  simp only [pfD, pc42, rs42, oU, oC, evX, evY, evZ, forall_const, implies_true, initE, stepF, D.clean, mvF, moF, tkF, shF, ariF, ciF, catF, scF, ebF, eqF, eqOk, eqPr, enF, notF, ngF, cvF, csF, csbF, lenF, lenSF, ixF, iaF, PX.slot, iaAF, faF, ldF, D.mem, stF, bxF, mkSF, boundF, fldF, ixAF, mmF2, D.plain, D.isPure, optAll, D.dull, callVF, splice, D.cells, D.one, sets, resT, D.flat, D.flat0, D.simple, Nat.reduceBNe, Nat.reduceLT, reduceIte, Nat.reduceEqDiff, Nat.reduceAdd, Nat.reduceMul, Nat.reduceSub, Nat.reduceLeDiff, Int.reduceToNat, Int.reduceLT, Int.reduceLE, Int.reduceEq, Int.reduceNeg, Int.reduceSub, Int.reduceAdd, Int.reduceMul, stG_own]
  refine ⟨fun h => by omega, fun _ => ⟨fun h => by omega, fun _ => ?_⟩⟩
  refine callF_of c ?_
  (refine ev ?_; try with_reducible exact trivial)
  refine loopF_of (fun E => ∃ k : Nat, k ≤ p.n ∧ E = [(1, .box true [.str (rt p.s.1), .str (rt p.s.2), .sl p.n (nms p.n p.t), .sl p.n (nms p.n p.l)]), (29, .sl p.n (nms p.n p.t)), (30, .int .i64 p.n), (31, .int .i64 k)])
    (fun E => match lk E 31 with | .int _ i => p.n - i.toNat | _ => 0) ⟨0, Nat.zero_le _, rfl⟩ ?_
  rintro _ ⟨k, hk, rfl⟩
  simp only [evX, evY, evZ, forall_const, implies_true, initE, stepF, D.clean, mvF, moF, tkF, shF, ariF, ciF, catF, scF, ebF, eqF, eqOk, eqPr, enF, notF, ngF, cvF, csF, csbF, lenF, lenSF, ixF, iaF, PX.slot, iaAF, faF, ldF, D.mem, stF, bxF, mkSF, boundF, fldF, ixAF, mmF2, D.plain, D.isPure, optAll, D.dull, callVF, splice, D.cells, D.one, sets, resT, D.flat, D.flat0, D.simple, Nat.reduceBNe, Nat.reduceLT, reduceIte, Nat.reduceEqDiff, Nat.reduceAdd, Nat.reduceMul, Nat.reduceSub, Nat.reduceLeDiff, Int.reduceToNat, Int.reduceLT, Int.reduceLE, Int.reduceEq, Int.reduceNeg, Int.reduceSub, Int.reduceAdd, Int.reduceMul, stG_own, ldC_nms, nms_len]
  intro h3
  have hk2 : k < p.n := by omega
  obtain ⟨o1, o2, o3⟩ := hp.ok k hk2
  have z1 := hp.t k hk2
  have z2 := hp.l k hk2
  have ca := Tryz.rcompare (absQ (p.t k)) 1 (by rw [rd_abs]; omega) (by rw [rd_one1]; omega)
  rw [rt1] at ca
  have hc := cmp_abs ⟨o1, o2⟩
  refine ⟨⟨by omega, by omega, by omega⟩, hk2, ?_⟩
  refine callF_of (Tryz.rcheckQ (p.t k) (by omega)) ?_
  simp only [evX, evY, evZ, forall_const, implies_true, initE, stepF, D.clean, mvF, moF, tkF, shF, ariF, ciF, catF, scF, ebF, eqF, eqOk, eqPr, enF, notF, ngF, cvF, csF, csbF, lenF, lenSF, ixF, iaF, PX.slot, iaAF, faF, ldF, D.mem, stF, bxF, mkSF, boundF, fldF, ixAF, mmF2, D.plain, D.isPure, optAll, D.dull, callVF, splice, D.cells, D.one, sets, resT, D.flat, D.flat0, D.simple, Nat.reduceBNe, Nat.reduceLT, reduceIte, Nat.reduceEqDiff, Nat.reduceAdd, Nat.reduceMul, Nat.reduceSub, Nat.reduceLeDiff, Int.reduceToNat, Int.reduceLT, Int.reduceLE, Int.reduceEq, Int.reduceNeg, Int.reduceSub, Int.reduceAdd, Int.reduceMul, stG_own, ldC_nms, nms_len]
  refine ⟨⟨by omega, by omega, by omega⟩, hk2, ?_⟩
  refine callF_of (Tryz.rcheckQ (p.l k) (by omega)) ?_
  (refine ev ?_; try with_reducible exact trivial)
  refine callF_of (Tryz.rabs (p.t k) (by omega)) ?_
  (refine ev ?_; try with_reducible exact trivial)
  refine callF_of ca ?_
  simp only [evX, evY, evZ, forall_const, implies_true, initE, stepF, D.clean, mvF, moF, tkF, shF, ariF, ciF, catF, scF, ebF, eqF, eqOk, eqPr, enF, notF, ngF, cvF, csF, csbF, lenF, lenSF, ixF, iaF, PX.slot, iaAF, faF, ldF, D.mem, stF, bxF, mkSF, boundF, fldF, ixAF, mmF2, D.plain, D.isPure, optAll, D.dull, callVF, splice, D.cells, D.one, sets, resT, D.flat, D.flat0, D.simple, Nat.reduceBNe, Nat.reduceLT, reduceIte, Nat.reduceEqDiff, Nat.reduceAdd, Nat.reduceMul, Nat.reduceSub, Nat.reduceLeDiff, Int.reduceToNat, Int.reduceLT, Int.reduceLE, Int.reduceEq, Int.reduceNeg, Int.reduceSub, Int.reduceAdd, Int.reduceMul, stG_own, ldC_nms, nms_len]
  refine ⟨fun _ => ?_, fun h => by omega⟩
  refine ⟨⟨by omega, by omega, by omega⟩, hk2, ?_⟩
  refine callF_of (Tryz.rsign (p.l k) (by omega)) ?_
  (refine ev ?_; try with_reducible exact trivial)
  rw [sgn_le]
  refine ⟨fun h => absurd o3 h, fun _ => ?_⟩
  exact ⟨by omega, ⟨k + 1, by omega, rfl⟩, by omega⟩

def Pf.wins (p : Pf) (n : Nat) (f : Nat → Rat) : Bool := decide (∀ k, k < n → p.win (f k) = true)

set_option maxHeartbeats 4000000 in
theorem Tryz.kheights (p : Pf) (hp : PSz p) (n : Nat) (f : Nat → Rat) (hn : n ≤ 4) (hf : ∀ k, k < n → rd (f k) ≤ 200) :
    Con Tryz.prog Tryz.L 80 [.agg (pfD p), .sl n (nms n f)] (.int .i64 (if Pf.wins p n f = true then 0 else 3)) := by
  have c := Tryz.kcheck p hp
  refine rule80 Tryz.hL rfl rfl rfl ?_
  simp only [pfD] at c
  simp only [pfD, pc80, rs80, oU, oC, evX, evY, evZ, forall_const, implies_true, initE, stepF, D.clean, mvF, moF, tkF, shF, ariF, ciF, catF, scF, ebF, eqF, eqOk, eqPr, enF, notF, ngF, cvF, csF, csbF, lenF, lenSF, ixF, iaF, PX.slot, iaAF, faF, ldF, D.mem, stF, bxF, mkSF, boundF, fldF, ixAF, mmF2, D.plain, D.isPure, optAll, D.dull, callVF, splice, D.cells, D.one, sets, resT, D.flat, D.flat0, D.simple, Nat.reduceBNe, Nat.reduceLT, reduceIte, Nat.reduceEqDiff, Nat.reduceAdd, Nat.reduceMul, Nat.reduceSub, Nat.reduceLeDiff, Int.reduceToNat, Int.reduceLT, Int.reduceLE, Int.reduceEq, Int.reduceNeg, Int.reduceSub, Int.reduceAdd, Int.reduceMul, stG_own]
  refine callF_of c ?_
  (refine ev ?_; try with_reducible exact trivial)
  refine loopF_of (fun E => ∃ k : Nat, k ≤ n ∧ E = [(1, .sl n (nms n f)), (2, .box true [.str (rt p.s.1), .str (rt p.s.2), .sl p.n (nms p.n p.t), .sl p.n (nms p.n p.l)]), (15, .sl n (nms n f)), (16, .int .i64 n), (17, .int .i64 k)])
    (fun E => match lk E 17 with | .int _ i => n - i.toNat | _ => 0) ⟨0, Nat.zero_le _, rfl⟩ ?_
  rintro _ ⟨k, hk, rfl⟩
  simp only [evX, evY, evZ, forall_const, implies_true, initE, stepF, D.clean, mvF, moF, tkF, shF, ariF, ciF, catF, scF, ebF, eqF, eqOk, eqPr, enF, notF, ngF, cvF, csF, csbF, lenF, lenSF, ixF, iaF, PX.slot, iaAF, faF, ldF, D.mem, stF, bxF, mkSF, boundF, fldF, ixAF, mmF2, D.plain, D.isPure, optAll, D.dull, callVF, splice, D.cells, D.one, sets, resT, D.flat, D.flat0, D.simple, Nat.reduceBNe, Nat.reduceLT, reduceIte, Nat.reduceEqDiff, Nat.reduceAdd, Nat.reduceMul, Nat.reduceSub, Nat.reduceLeDiff, Int.reduceToNat, Int.reduceLT, Int.reduceLE, Int.reduceEq, Int.reduceNeg, Int.reduceSub, Int.reduceAdd, Int.reduceMul, stG_own, ldC_nms, nms_len]
  refine ⟨fun h3 => ?_, fun h3 => ?_⟩
  · have hk2 : k < n := by omega
    refine ⟨⟨by omega, by omega, by omega⟩, hk2, ?_⟩
    refine callF_of (Tryz.rcheckQ (f k) (hf k hk2)) ?_
    (refine ev ?_; try with_reducible exact trivial)
    exact ⟨by omega, ⟨k + 1, by omega, rfl⟩, by omega⟩
  · refine loopF_of (fun E => ∃ k : Nat, k ≤ n ∧ (∀ j, j < k → p.win (f j) = true) ∧ E = [(2, .box true [.str (rt p.s.1), .str (rt p.s.2), .sl p.n (nms p.n p.t), .sl p.n (nms p.n p.l)]), (25, .sl n (nms n f)), (26, .int .i64 n), (27, .int .i64 k)])
      (fun E => match lk E 27 with | .int _ i => n - i.toNat | _ => 0) ⟨0, Nat.zero_le _, fun j hj => absurd hj (by omega), rfl⟩ ?_
    rintro _ ⟨k, hk, hall, rfl⟩
    simp only [evX, evY, evZ, forall_const, implies_true, initE, stepF, D.clean, mvF, moF, tkF, shF, ariF, ciF, catF, scF, ebF, eqF, eqOk, eqPr, enF, notF, ngF, cvF, csF, csbF, lenF, lenSF, ixF, iaF, PX.slot, iaAF, faF, ldF, D.mem, stF, bxF, mkSF, boundF, fldF, ixAF, mmF2, D.plain, D.isPure, optAll, D.dull, callVF, splice, D.cells, D.one, sets, resT, D.flat, D.flat0, D.simple, Nat.reduceBNe, Nat.reduceLT, reduceIte, Nat.reduceEqDiff, Nat.reduceAdd, Nat.reduceMul, Nat.reduceSub, Nat.reduceLeDiff, Int.reduceToNat, Int.reduceLT, Int.reduceLE, Int.reduceEq, Int.reduceNeg, Int.reduceSub, Int.reduceAdd, Int.reduceMul, stG_own, ldC_nms, nms_len]
    refine ⟨fun h3 => ?_, fun h3 => ?_⟩
    · have hk2 : k < n := by omega
      have hfk := hf k hk2
      refine ⟨⟨by omega, by omega, by omega⟩, hk2, ?_⟩
      have cw := Tryz.kwithin p hp (f k) (by omega)
      simp only [pfD] at cw
      refine callF_of cw ?_
      cases hw : p.win (f k) with
      | true =>
        (refine ev ?_; try with_reducible exact trivial)
        refine ⟨by omega, ⟨k + 1, by omega, fun j hj => ?_, rfl⟩, by omega⟩
        by_cases e : j = k
        · subst e; exact hw
        · exact hall j (by omega)
      | false =>
        (refine ev ?_; try with_reducible exact trivial)
        have e : Pf.wins p n f = false := by unfold Pf.wins; rw [decide_eq_false_iff_not]; intro z; rw [z k hk2] at hw; cases hw
        rw [e]; rfl
    · obtain rfl : k = n := by omega
      have e : Pf.wins p k f = true := by unfold Pf.wins; rw [decide_eq_true_iff]; exact hall
      rw [e]; rfl
end Go.Proofs

/-
  KINK: Bed, Along, Length, Area, Quad, Direction. Own work.
-/
namespace Go.Proofs
open Go Go.Pi Go.RowKit Go.Ar Go.Ge Go.Kk

theorem wins1 (p : Pf) (h : Rat) : Pf.wins p 1 (fun _ => h) = p.win h := by
  unfold Pf.wins
  cases hw : p.win h
  · rw [decide_eq_false_iff_not]; intro z; have := z 0 (by omega); rw [hw] at this; cases this
  · rw [decide_eq_true_iff]; exact fun _ _ => hw
theorem Tryz.kheight (p : Pf) (hp : PSz p) (h : Rat) (hh : rd h ≤ 200) :
    Con Tryz.prog Tryz.L 80 [.agg (pfD p), .sl 1 [.str (rt h)]] (.int .i64 (if p.win h = true then 0 else 3)) := by
  have c := Tryz.kheights p hp 1 (fun _ => h) (by omega) (fun _ _ => hh)
  rw [wins1] at c
  exact c
theorem wins2 (p : Pf) (a b : Rat) : Pf.wins p 2 (fun k => if k = 0 then a else b) = (p.win a && p.win b) := by
  unfold Pf.wins
  cases ha : p.win a
  · rw [Bool.false_and, decide_eq_false_iff_not]; intro z; have := z 0 (by omega); simp only [if_true] at this; rw [ha] at this; cases this
  · cases hb : p.win b
    · rw [Bool.and_false, decide_eq_false_iff_not]; intro z; have := z 1 (by omega); simp only [Nat.one_ne_zero, if_false] at this; rw [hb] at this; cases this
    · rw [Bool.and_true, decide_eq_true_iff]; intro k hk; show p.win (if k = 0 then a else b) = true; split
      · exact ha
      · exact hb
theorem Tryz.kheight2 (p : Pf) (hp : PSz p) (a b : Rat) (ha : rd a ≤ 200) (hb : rd b ≤ 200) :
    Con Tryz.prog Tryz.L 80 [.agg (pfD p), .sl 2 [.str (rt a), .str (rt b)]] (.int .i64 (if (p.win a && p.win b) = true then 0 else 3)) := by
  have c := Tryz.kheights p hp 2 (fun k => if k = 0 then a else b) (by omega) (fun k _ => by split <;> assumption)
  rw [wins2] at c
  exact c

theorem Tryz.kBed (p : Pf) (hp : PSz p) (h : Rat) (hh : rd h ≤ 200) (hb : ∀ k, k ≤ p.n → Sz 200 (p.bd h k)) :
    Con Tryz.prog Tryz.L 37 [.agg (pfD p), .str (rt h)] (if p.win h = true then .tup [.sl (p.n + 1) (pts (lst (p.n + 1) (p.bd h))), .int .i64 0] else .tup [.sl 0 [], .int .i64 3]) := by
  have c1 := Tryz.kheight p hp h hh
  have c2 := Tryz.kbed p hp h (by omega)
  have hn4 := hp.n
  have c3 := Tryz.kplaces (p.n + 1) (p.bd h) (by omega) (fun k hk => hb k (by omega))
  simp only [pfD] at c1 c2 ⊢
  cases hw : p.win h with
  | true =>
    rw [hw] at c1
    simp only [if_true] at c1 ⊢
    refine rule37 Tryz.hL rfl rfl rfl ?_
    (simp only [pc37, rs37, oU, oC]; refine ev ?_; try with_reducible exact trivial)
    refine callF_of c1 ?_
    (refine ev ?_; try with_reducible exact trivial)
    refine callF_of c2 ?_
    (refine ev ?_; try with_reducible exact trivial)
    refine callF_of c3 ?_
    (refine ev ?_; try with_reducible exact trivial)
    rfl
  | false =>
    rw [hw] at c1
    simp only [Bool.false_eq_true, if_false] at c1 ⊢
    refine rule37 Tryz.hL rfl rfl rfl ?_
    (simp only [pc37, rs37, oU, oC]; refine ev ?_; try with_reducible exact trivial)
    refine callF_of c1 ?_
    (refine ev ?_; try with_reducible exact trivial)
    rfl
theorem Tryz.kLength (p : Pf) (hp : PSz p) (h : Rat) (hh : rd h ≤ 200) (hs : rd (sumN (p.ln h) p.n) ≤ 200) :
    Con Tryz.prog Tryz.L 39 [.agg (pfD p), .str (rt h)] (if p.win h = true then .tup [.str (rt (sumN (p.ln h) p.n)), .int .i64 0] else .tup [.str [], .int .i64 3]) := by
  have c1 := Tryz.kheight p hp h hh
  have c2 := Tryz.klen p hp h (by omega)
  have hn4 := hp.n
  have c3 := Tryz.ksum p.n (p.ln h) (by omega) (fun k hk => by have := rd_ln hp hh hk; omega)
  have c4 := Tryz.kresult _ hs
  simp only [pfD] at c1 c2 ⊢
  cases hw : p.win h with
  | true =>
    rw [hw] at c1
    simp only [if_true] at c1 ⊢
    refine rule39 Tryz.hL rfl rfl rfl ?_
    (simp only [pc39, rs39, oU, oC]; refine ev ?_; try with_reducible exact trivial)
    refine callF_of c1 ?_
    (refine ev ?_; try with_reducible exact trivial)
    refine callF_of c2 ?_
    (refine ev ?_; try with_reducible exact trivial)
    refine callF_of c3 ?_
    (refine ev ?_; try with_reducible exact trivial)
    refine callF_of c4 ?_
    (refine ev ?_; try with_reducible exact trivial)
    rfl
  | false =>
    rw [hw] at c1
    simp only [Bool.false_eq_true, if_false] at c1 ⊢
    refine rule39 Tryz.hL rfl rfl rfl ?_
    (simp only [pc39, rs39, oU, oC]; refine ev ?_; try with_reducible exact trivial)
    refine callF_of c1 ?_
    (refine ev ?_; try with_reducible exact trivial)
    rfl

set_option maxHeartbeats 4000000 in
theorem Tryz.kAlong (p : Pf) (hp : PSz p) (h : Rat) (hh : rd h ≤ 200) (hs : ∀ k, k < p.n → rd (p.ln h k) ≤ 200) :
    Con Tryz.prog Tryz.L 38 [.agg (pfD p), .str (rt h)] (if p.win h = true then .tup [.sl p.n (nms p.n (p.ln h)), .int .i64 0] else .tup [.sl 0 [], .int .i64 3]) := by
  have c1 := Tryz.kheight p hp h hh
  have c2 := Tryz.klen p hp h (by omega)
  have hn4 := hp.n
  simp only [pfD] at c1 c2 ⊢
  cases hw : p.win h with
  | true =>
    rw [hw] at c1
    simp only [if_true] at c1 ⊢
    refine rule38 Tryz.hL rfl rfl rfl ?_
    (simp only [pc38, rs38, oU, oC]; refine ev ?_; try with_reducible exact trivial)
    refine callF_of c1 ?_
    (refine ev ?_; try with_reducible exact trivial)
    refine callF_of c2 ?_
    (refine ev ?_; try with_reducible exact trivial)
    refine loopF_of (fun E => ∃ k : Nat, k ≤ p.n ∧ E = [(7, .own false 22 p.n (nms p.n (p.ln h))), (22, .sl p.n (nms p.n (p.ln h))), (23, .int .i64 p.n), (24, .int .i64 k)])
      (fun E => match lk E 24 with | .int _ i => p.n - i.toNat | _ => 0) ⟨0, Nat.zero_le _, rfl⟩ ?_
    rintro _ ⟨k, hk, rfl⟩
    simp only [evX, evY, evZ, forall_const, implies_true, initE, stepF, D.clean, mvF, moF, tkF, shF, ariF, ciF, catF, scF, ebF, eqF, eqOk, eqPr, enF, notF, ngF, cvF, csF, csbF, lenF, lenSF, ixF, iaF, PX.slot, iaAF, faF, ldF, D.mem, stF, bxF, mkSF, boundF, fldF, ixAF, mmF2, D.plain, D.isPure, optAll, D.dull, callVF, splice, D.cells, D.one, sets, resT, D.flat, D.flat0, D.simple, Nat.reduceBNe, Nat.reduceLT, reduceIte, Nat.reduceEqDiff, Nat.reduceAdd, Nat.reduceMul, Nat.reduceSub, Nat.reduceLeDiff, Int.reduceToNat, Int.reduceLT, Int.reduceLE, Int.reduceEq, Int.reduceNeg, Int.reduceSub, Int.reduceAdd, Int.reduceMul, stG_own, ldC_nms, nms_len]
    refine ⟨fun h3 => ?_, fun h3 => ?_⟩
    · have hk2 : k < p.n := by omega
      refine ⟨⟨by omega, by omega, by omega⟩, hk2, ?_⟩
      refine callF_of (Tryz.kresult _ (hs k hk2)) ?_
      (refine ev ?_; try with_reducible exact trivial)
      exact ⟨by omega, ⟨k + 1, by omega, rfl⟩, by omega⟩
    · obtain rfl : k = p.n := by omega
      rfl
  | false =>
    rw [hw] at c1
    simp only [Bool.false_eq_true, if_false] at c1 ⊢
    refine rule38 Tryz.hL rfl rfl rfl ?_
    (simp only [pc38, rs38, oU, oC]; refine ev ?_; try with_reducible exact trivial)
    refine callF_of c1 ?_
    (refine ev ?_; try with_reducible exact trivial)
    rfl

set_option maxHeartbeats 4000000 in
theorem Tryz.kArea (p : Pf) (hp : PSz p) (a b : Rat) (ha : rd a ≤ 200) (hb : rd b ≤ 200) (hs : rd ((sumN (p.ln a) p.n + sumN (p.ln b) p.n) * (1 / 2) * (b - a)) ≤ 200) :
    Con Tryz.prog Tryz.L 26 [.agg (pfD p), .str (rt a), .str (rt b)] (if (p.win a && p.win b) = true then (if a < b then .tup [.str (rt ((sumN (p.ln a) p.n + sumN (p.ln b) p.n) * (1 / 2) * (b - a))), .int .i64 0] else .tup [.str [], .int .i64 6]) else .tup [.str [], .int .i64 3]) := by
  have c1 := Tryz.kheight2 p hp a b ha hb
  have c2 := Tryz.klen p hp a (by omega)
  have d2 := Tryz.klen p hp b (by omega)
  have hn4 := hp.n
  have e1 := rd_sumN (f := p.ln a) (m := 311) (n := p.n) (fun k hk => rd_ln hp ha hk)
  have e2 := rd_sumN (f := p.ln b) (m := 311) (n := p.n) (fun k hk => rd_ln hp hb hk)
  have e3 : p.n * (311 + 1) ≤ 4 * 312 := Nat.mul_le_mul hn4 (by omega)
  have c3 := Tryz.ksum p.n (p.ln a) (by omega) (fun k hk => by have := rd_ln hp ha hk; omega)
  have d3 := Tryz.ksum p.n (p.ln b) (by omega) (fun k hk => by have := rd_ln hp hb hk; omega)
  have cm := Tryz.kmiddle (sumN (p.ln a) p.n) (sumN (p.ln b) p.n) (by omega) (by omega)
  have e4 := rd_add (sumN (p.ln a) p.n) (sumN (p.ln b) p.n)
  have e5 := rd_mul (sumN (p.ln a) p.n + sumN (p.ln b) p.n) (1 / 2)
  have e6 : rd (1 / 2 : Rat) ≤ 1 := by decide +kernel
  have e7 := rd_sub b a
  have c4 := Tryz.kresult _ hs
  have cc := Tryz.rcompare a b (by omega) (by omega)
  simp only [pfD] at c1 c2 d2 ⊢
  cases hw : (p.win a && p.win b) with
  | true =>
    rw [hw] at c1
    simp only [if_true] at c1 ⊢
    refine rule26 Tryz.hL (r := if a < b then _ else _) (by split <;> rfl) rfl rfl ?_
    (simp only [pc26, rs26, oU, oC]; refine ev ?_; try with_reducible exact trivial)
    refine callF_of c1 ?_
    (refine ev ?_; try with_reducible exact trivial)
    refine callF_of cc ?_
    (refine ev ?_; try with_reducible exact trivial)
    refine ⟨fun h => ?_, fun h => ?_⟩
    · have hab : ¬ a < b := fun z => by unfold cmpQ at h; rw [if_pos z] at h; omega
      rw [if_neg hab]; rfl
    · have hab : a < b := by
        unfold cmpQ at h; split at h
        · assumption
        · split at h <;> omega
      rw [if_pos hab]
      refine callF_of c2 ?_
      (refine ev ?_; try with_reducible exact trivial)
      refine callF_of c3 ?_
      (refine ev ?_; try with_reducible exact trivial)
      refine callF_of d2 ?_
      (refine ev ?_; try with_reducible exact trivial)
      refine callF_of d3 ?_
      (refine ev ?_; try with_reducible exact trivial)
      refine callF_of cm ?_
      (refine ev ?_; try with_reducible exact trivial)
      refine callF_of (Tryz.rsub b a (by omega) (by omega)) ?_
      (refine ev ?_; try with_reducible exact trivial)
      refine callF_of (Tryz.rmul _ (b - a) (by omega) (by omega)) ?_
      (refine ev ?_; try with_reducible exact trivial)
      refine callF_of c4 ?_
      (refine ev ?_; try with_reducible exact trivial)
      rfl
  | false =>
    rw [hw] at c1
    simp only [Bool.false_eq_true, if_false] at c1 ⊢
    refine rule26 Tryz.hL rfl rfl rfl ?_
    (simp only [pc26, rs26, oU, oC]; refine ev ?_; try with_reducible exact trivial)
    refine callF_of c1 ?_
    (refine ev ?_; try with_reducible exact trivial)
    rfl

theorem Tryz.kDirection (t : Rat) (ht : rd t ≤ 200) (hd : Sz 200 (dirK t)) : Con Tryz.prog Tryz.L 14 [.str (rt t)] (.tup [ptD (dirK t), .int .i64 0]) := by
  have c1 := Tryz.rcheckQ t ht
  have c2 := Tryz.kdir t (by omega)
  have c3 := Tryz.kplace _ hd
  simp only [ptD] at c2 c3
  refine rule14 Tryz.hL rfl rfl rfl ?_
  simp only [ptD, pc14, rs14, oU, oC, evX, evY, evZ, forall_const, implies_true, initE, stepF, D.clean, mvF, moF, tkF, shF, ariF, ciF, catF, scF, ebF, eqF, eqOk, eqPr, enF, notF, ngF, cvF, csF, csbF, lenF, lenSF, ixF, iaF, PX.slot, iaAF, faF, ldF, D.mem, stF, bxF, mkSF, boundF, fldF, ixAF, mmF2, D.plain, D.isPure, optAll, D.dull, callVF, splice, D.cells, D.one, sets, resT, D.flat, D.flat0, D.simple, Nat.reduceBNe, Nat.reduceLT, reduceIte, Nat.reduceEqDiff, Nat.reduceAdd, Nat.reduceMul, Nat.reduceSub, Nat.reduceLeDiff, Int.reduceToNat, Int.reduceLT, Int.reduceLE, Int.reduceEq, Int.reduceNeg, Int.reduceSub, Int.reduceAdd, Int.reduceMul, stG_own]
  refine callF_of c1 ?_
  (refine ev ?_; try with_reducible exact trivial)
  refine callF_of c2 ?_
  (refine ev ?_; try with_reducible exact trivial)
  refine callF_of c3 ?_
  (refine ev ?_; try with_reducible exact trivial)
  rfl
theorem ldC_ptsL {n k t : Nat} {f : Nat → Pt} {N : EP} {E : Env} : ldC true 2 (List.drop (k * 2) (pts (lst n f))) t N E = (k < n ∧ N (st1 E t (.agg (pD (f k))))) := by
  by_cases h : k < n
  · obtain ⟨r, e⟩ := rows_at pD_len (lst_at f h)
    rw [e, ldC_agg]
    simp [pD, h]
  · have e : List.drop (k * 2) (pts (lst n f)) = [] := List.drop_eq_nil_of_le (by rw [pts_len, lst_len]; omega)
    rw [e]
    simp [ldC, ofCells, h]
theorem ptsL_len (n : Nat) (f : Nat → Pt) : (pts (lst n f)).length = n * 2 := by rw [pts_len, lst_len]

/-- the points of a quadrilateral -/
def qd (p : Pf) (a b : Rat) (d : Nat) (k : Nat) : Pt := if k = 0 then p.bd a d else if k = 1 then p.bd a (d + 1) else if k = 2 then p.bd b (d + 1) else p.bd b d

set_option maxHeartbeats 4000000 in
theorem Tryz.kQuad (p : Pf) (hp : PSz p) (d : Int) (hd : inR .i64 d) (a b : Rat) (ha : rd a ≤ 200) (hb : rd b ≤ 200) (hs : ∀ k, k ≤ p.n → Sz 200 (p.bd a k) ∧ Sz 200 (p.bd b k)) :
    Con Tryz.prog Tryz.L 27 [.agg (pfD p), .int .i64 d, .agg [.str (rt a), .str (rt b)]] (if 0 ≤ d ∧ d < p.n then (if (p.win a && p.win b) = true then (if a < b then .tup [.sl 4 (pts (lst 4 (qd p a b d.toNat))), .int .i64 0] else .tup [.sl 0 [], .int .i64 6]) else .tup [.sl 0 [], .int .i64 3]) else .tup [.sl 0 [], .int .i64 3]) := by
  have c0 := Tryz.kcheck p hp
  have c1 := Tryz.kheight2 p hp a b ha hb
  have c2 := Tryz.kbed p hp a (by omega)
  have d2 := Tryz.kbed p hp b (by omega)
  have hn4 := hp.n
  have cc := Tryz.rcompare a b (by omega) (by omega)
  simp only [pfD] at c0 c1 c2 d2 ⊢
  refine rule27 Tryz.hL (by split <;> (try split) <;> (try split) <;> rfl) rfl rfl ?_
  (simp only [pc27, rs27, oU, oC]; refine ev ?_; try with_reducible exact trivial)
  refine callF_of c0 ?_
  (refine ev ?_; try with_reducible exact trivial)
  refine ⟨fun h1 => ⟨fun h2 => by rw [if_neg (by omega)]; rfl, fun h2 => ?_⟩, fun h1 => by rw [if_neg (by omega)]; rfl⟩
  obtain ⟨m, rfl⟩ : ∃ m : Nat, d = m := ⟨d.toNat, by omega⟩
  rw [if_pos ⟨by omega, by omega⟩]
  have hm : m < p.n := by omega
  cases hw : (p.win a && p.win b) with
  | false =>
    rw [hw] at c1
    simp only [Bool.false_eq_true, if_false] at c1 ⊢
    refine callF_of c1 ?_
    (refine ev ?_; try with_reducible exact trivial)
    rfl
  | true =>
    rw [hw] at c1
    simp only [if_true] at c1 ⊢
    refine callF_of c1 ?_
    (refine ev ?_; try with_reducible exact trivial)
    refine callF_of cc ?_
    (refine ev ?_; try with_reducible exact trivial)
    refine ⟨fun h => ?_, fun h => ?_⟩
    · have hab : ¬ a < b := fun z => by unfold cmpQ at h; rw [if_pos z] at h; omega
      rw [if_neg hab]; rfl
    · have hab : a < b := by
        unfold cmpQ at h; split at h
        · assumption
        · split at h <;> omega
      rw [if_pos hab]
      refine callF_of c2 ?_
      (refine ev ?_; try with_reducible exact trivial)
      refine callF_of d2 ?_
      have e1 : ((m : Int) + 1).toNat = m + 1 := by omega
      have c3 := Tryz.kplaces 4 (qd p a b m) (by omega) (fun k _ => by
        unfold qd
        split
        · exact (hs m (by omega)).1
        · split
          · exact (hs (m + 1) (by omega)).1
          · split
            · exact (hs (m + 1) (by omega)).2
            · exact (hs m (by omega)).2)
      simp only [evX, evY, evZ, forall_const, implies_true, initE, stepF, D.clean, mvF, moF, tkF, shF, ariF, ciF, catF, scF, ebF, eqF, eqOk, eqPr, enF, notF, ngF, cvF, csF, csbF, lenF, lenSF, ixF, iaF, PX.slot, iaAF, faF, ldF, D.mem, stF, bxF, mkSF, boundF, fldF, ixAF, mmF2, D.plain, D.isPure, optAll, D.dull, callVF, splice, D.cells, D.one, sets, resT, D.flat, D.flat0, D.simple, Nat.reduceBNe, Nat.reduceLT, reduceIte, Nat.reduceEqDiff, Nat.reduceAdd, Nat.reduceMul, Nat.reduceSub, Nat.reduceLeDiff, Int.reduceToNat, Int.reduceLT, Int.reduceLE, Int.reduceEq, Int.reduceNeg, Int.reduceSub, Int.reduceAdd, Int.reduceMul, stG_own, ldC_ptsL, ptsL_len, pD, e1]
      refine ⟨⟨by omega, by omega, by omega⟩, by omega, by omega, ⟨by omega, by omega, by omega⟩, by omega, by omega, ⟨by omega, by omega, by omega⟩, by omega, ⟨by omega, by omega, by omega⟩, by omega, ?_⟩
      refine callF_of c3 ?_
      (refine ev ?_; try with_reducible exact trivial)
      rfl
end Go.Proofs

/-
  KINK: Axes and Reach. Own work.
-/
namespace Go.Proofs
open Go Go.Pi Go.RowKit Go.Ar Go.Ge Go.Kk

/-- the inner axes -/
def axI (p : Pf) : List D := rows axD (lst (p.n - 1) fun k => (p.at' (k + 1), p.ax (k + 1)))
theorem axI_len (p : Pf) : (axI p).length = (p.n - 1) * 4 := by unfold axI; rw [rows_length axD_len, lst_len]
theorem lst_cut {α : Type} (n a b : Nat) (f : Nat → α) (h : b ≤ n) (hab : a ≤ b) : ((lst n f).take b).drop a = lst (b - a) fun k => f (k + a) := by
  apply List.ext_getElem?
  intro i
  rw [List.getElem?_drop, List.getElem?_take]
  by_cases h1 : i < b - a
  · rw [if_pos (by omega), lst_at _ (by omega), lst_at _ h1, Nat.add_comm]
  · rw [if_neg (by omega), List.getElem?_eq_none (by rw [lst_len]; omega)]
theorem cut_axs (p : Pf) (h : 0 < p.n) : cut 4 1 p.n (axs p (p.n + 1)) = axI p := by
  unfold axs axI
  rw [cut_rows axD_len, lst_cut _ _ _ _ (by omega) (by omega)]
theorem ldC_axI {p : Pf} {j t : Nat} {N : EP} {E : Env} : ldC true 4 (List.take 4 (List.drop (j * 4) (axI p))) t N E = (j < p.n - 1 ∧ N (st1 E t (.agg (axD (p.at' (j + 1), p.ax (j + 1)))))) := by
  by_cases h : j < p.n - 1
  · obtain ⟨r, e⟩ := rows_at axD_len (lst_at (fun k => (p.at' (k + 1), p.ax (k + 1))) h)
    unfold axI
    rw [e, ldC_agg]
    simp [axD, h]
  · have e : List.drop (j * 4) (axI p) = [] := List.drop_eq_nil_of_le (by rw [axI_len]; omega)
    rw [e]
    simp [ldC, ofCells, h]

set_option maxHeartbeats 4000000 in
theorem Tryz.kAxes (p : Pf) (hp : PSz p) : Con Tryz.prog Tryz.L 19 [.agg (pfD p)] (.tup [.sl (p.n - 1) (axI p), .int .i64 0]) := by
  have c0 := Tryz.kcheck p hp
  have c1 := Tryz.kends p hp
  have hn4 := hp.n
  have hn0 := hp.n0
  have hl := axs_len p (p.n + 1)
  simp only [pfD] at c0 c1 ⊢
  refine rule19 Tryz.hL rfl rfl rfl ?_
  (simp only [pc19, rs19, oU, oC]; refine ev ?_; try with_reducible exact trivial)
  refine callF_of c0 ?_
  (refine ev ?_; try with_reducible exact trivial)
  refine callF_of c1 ?_
  (refine ev ?_; try with_reducible exact trivial)
  have e1 : (((p.n + 1 : Nat) : Int) - 1).toNat = p.n := by omega
  have e2 : (((p.n + 1 : Nat) : Int) - 1) = (p.n : Int) := by omega
  have hl2 := axI_len p
  simp only [e1, cut_axs p hn0]
  refine ⟨⟨by omega, by omega⟩, by omega, by omega, by omega, fun h => ?_, fun h => ?_⟩
  · have e3 : p.n - 1 = 0 := by omega
    have e4 : axI p = [] := List.eq_nil_of_length_eq_zero (by rw [axI_len]; omega)
    rw [e3, e4]; rfl
  · refine loopF_of (fun E => ∃ k : Nat, k ≤ p.n - 1 ∧ E = [(5, .sl (p.n - 1) (axI p)), (23, .sl (p.n - 1) (axI p)), (24, .int .i64 ((p.n - 1 : Nat) : Int)), (25, .int .i64 k)])
      (fun E => match lk E 25 with | .int _ i => p.n - i.toNat | _ => 0) ⟨0, Nat.zero_le _, rfl⟩ ?_
    rintro _ ⟨k, hk, rfl⟩
    simp only [evX, evY, evZ, forall_const, implies_true, initE, stepF, D.clean, mvF, moF, tkF, shF, ariF, ciF, catF, scF, ebF, eqF, eqOk, eqPr, enF, notF, ngF, cvF, csF, csbF, lenF, lenSF, ixF, iaF, PX.slot, iaAF, faF, ldF, D.mem, stF, bxF, mkSF, boundF, fldF, ixAF, mmF2, D.plain, D.isPure, optAll, D.dull, callVF, splice, D.cells, D.one, sets, resT, D.flat, D.flat0, D.simple, Nat.reduceBNe, Nat.reduceLT, reduceIte, Nat.reduceEqDiff, Nat.reduceAdd, Nat.reduceMul, Nat.reduceSub, Nat.reduceLeDiff, Int.reduceToNat, Int.reduceLT, Int.reduceLE, Int.reduceEq, Int.reduceNeg, Int.reduceSub, Int.reduceAdd, Int.reduceMul, stG_own, ldC_axI, axD, hl2]
    refine ⟨fun h3 => ?_, fun h3 => ?_⟩
    · have hk2 : k < p.n - 1 := by omega
      refine ⟨⟨by omega, by omega, by omega⟩, hk2, ?_⟩
      have ca := Tryz.ppoint (p.at' (k + 1)) ((hp.at' (k + 1) (by omega)).mono (by omega))
      have cb := Tryz.ppoint (p.ax (k + 1)) ((hp.ax (k + 1) (by omega)).mono (by omega))
      simp only [ptD] at ca cb
      refine callF_of ca ?_
      (refine ev ?_; try with_reducible exact trivial)
      refine callF_of cb ?_
      (refine ev ?_; try with_reducible exact trivial)
      exact ⟨by omega, ⟨k + 1, by omega, rfl⟩, by omega⟩
    · rfl

/-! ### the reach -/
def optT : Option Rat → List UInt8
  | none => []
  | some q => rt q
def upB (o : Option Rat) (h : Rat) : Bool := match o with | none => true | some x => decide (x < h)
def dnB (o : Option Rat) (h : Rat) : Bool := match o with | none => true | some x => decide (h < x)
def rStep (p : Pf) (o : Option Rat × Option Rat) (k : Nat) : Option Rat × Option Rat :=
  if p.gr k = 0 then o else if 0 < p.gr k then (if upB o.1 (-p.l k / p.gr k) = true then (some (-p.l k / p.gr k), o.2) else o) else (if dnB o.2 (-p.l k / p.gr k) = true then (o.1, some (-p.l k / p.gr k)) else o)
def rch (p : Pf) : Nat → Option Rat × Option Rat
  | 0 => (none, none)
  | k + 1 => rStep p (rch p k) k
theorem optT_n : optT none = [] := rfl
theorem optT_s (q : Rat) : optT (some q) = rt q := rfl
theorem rt_nil (q : Rat) : (rt q = []) = False := propext ⟨fun h => rt_ne h, fun h => h.elim⟩
def OSz (o : Option Rat) : Prop := ∀ x, o = some x → rd x ≤ 110
theorem rch_sz {p : Pf} (hp : PSz p) : ∀ {k : Nat}, k ≤ p.n → OSz (rch p k).1 ∧ OSz (rch p k).2
  | 0, _ => ⟨(fun _ h => by cases h), (fun _ h => by cases h)⟩
  | k + 1, hk => by
    have ih := rch_sz hp (k := k) (by omega)
    have z : rd (-p.l k / p.gr k) ≤ 110 := by
      have h1 := rd_div (-p.l k) (p.gr k)
      rw [rd_neg] at h1
      have h2 := hp.l k (by omega)
      have h3 := hp.gr k (by omega)
      omega
    show OSz (rStep p (rch p k) k).1 ∧ OSz (rStep p (rch p k) k).2
    unfold rStep
    have hz : OSz (some (-p.l k / p.gr k)) := fun x h => by cases h; exact z
    split
    · exact ih
    · split
      · split
        · exact ⟨hz, ih.2⟩
        · exact ih
      · split
        · exact ⟨ih.1, hz⟩
        · exact ih
theorem sgn_gt (q : Rat) : 0 < q.num.sign ↔ 0 < q := by
  rcases sgn_cases q with ⟨h1, _, h3⟩ | ⟨h1, _, h3⟩ | ⟨h1, _, h3⟩ <;> rw [h3] <;> grind
theorem sgn_lt (q : Rat) : q.num.sign < 0 ↔ q < 0 := by
  rcases sgn_cases q with ⟨h1, _, h3⟩ | ⟨h1, _, h3⟩ | ⟨h1, _, h3⟩ <;> rw [h3] <;> grind
theorem cmp_gt {a b : Rat} : 0 < cmpQ a b ↔ b < a := by
  unfold cmpQ
  split
  · rename_i h; exact ⟨fun z => by omega, fun z => by grind⟩
  · split
    · rename_i h; exact ⟨fun _ => h, fun _ => by omega⟩
    · rename_i h; exact ⟨fun z => by omega, fun z => absurd z h⟩
theorem cmp_lt {a b : Rat} : cmpQ a b < 0 ↔ a < b := by
  unfold cmpQ
  split
  · rename_i h; exact ⟨fun _ => h, fun _ => by omega⟩
  · rename_i h0
    split
    · rename_i h; exact ⟨fun z => by omega, fun z => absurd z h0⟩
    · rename_i h; exact ⟨fun z => by omega, fun z => absurd z h0⟩

set_option maxHeartbeats 8000000 in
theorem Tryz.kReach (p : Pf) (hp : PSz p) : Con Tryz.prog Tryz.L 20 [.agg (pfD p)] (.tup [.str (optT (rch p p.n).1), .str (optT (rch p p.n).2), .int .i64 0]) := by
  have c0 := Tryz.kcheck p hp
  have c1 := Tryz.kgrow p hp
  have hn4 := hp.n
  simp only [pfD] at c0 c1 ⊢
  refine rule20 Tryz.hL rfl rfl rfl ?_
  (simp only [pc20, rs20, oU, oC]; refine ev ?_; try with_reducible exact trivial)
  refine callF_of c0 ?_
  (refine ev ?_; try with_reducible exact trivial)
  refine callF_of c1 ?_
  (refine ev ?_; try with_reducible exact trivial)
  refine loopF_of (fun E => ∃ k : Nat, k ≤ p.n ∧ E = [(1, .box true [.str (rt p.s.1), .str (rt p.s.2), .sl p.n (nms p.n p.t), .sl p.n (nms p.n p.l)]), (2, .str (optT (rch p k).1)), (3, .str (optT (rch p k).2)), (17, .sl p.n (nms p.n p.gr)), (18, .int .i64 p.n), (19, .int .i64 k)])
    (fun E => match lk E 19 with | .int _ i => p.n - i.toNat | _ => 0) ⟨0, Nat.zero_le _, rfl⟩ ?_
  rintro _ ⟨k, hk, rfl⟩
  simp only [evX, evY, evZ, forall_const, implies_true, initE, stepF, D.clean, mvF, moF, tkF, shF, ariF, ciF, catF, scF, ebF, eqF, eqOk, eqPr, enF, notF, ngF, cvF, csF, csbF, lenF, lenSF, ixF, iaF, PX.slot, iaAF, faF, ldF, D.mem, stF, bxF, mkSF, boundF, fldF, ixAF, mmF2, D.plain, D.isPure, optAll, D.dull, callVF, splice, D.cells, D.one, sets, resT, D.flat, D.flat0, D.simple, Nat.reduceBNe, Nat.reduceLT, reduceIte, Nat.reduceEqDiff, Nat.reduceAdd, Nat.reduceMul, Nat.reduceSub, Nat.reduceLeDiff, Int.reduceToNat, Int.reduceLT, Int.reduceLE, Int.reduceEq, Int.reduceNeg, Int.reduceSub, Int.reduceAdd, Int.reduceMul, stG_own, ldC_nms, nms_len]
  refine ⟨fun h3 => ?_, fun h3 => ?_⟩
  · have hk2 : k < p.n := by omega
    refine ⟨⟨by omega, by omega, by omega⟩, hk2, ?_⟩
    have z1 := hp.l k hk2
    have z2 := hp.gr k hk2
    have z3 := rd_div (-p.l k) (p.gr k)
    rw [rd_neg] at z3
    obtain ⟨s1, s2⟩ := rch_sz hp (k := k) (by omega)
    have er : rch p (k + 1) = rStep p (rch p k) k := rfl
    generalize rch p k = o at *
    obtain ⟨o1, o2⟩ := o
    simp only [rt_zero]
    refine ⟨fun h => ⟨by omega, ⟨k + 1, by omega, by rw [er, rStep, if_pos h], by rw [er, rStep, if_pos h], rfl⟩, by omega⟩, fun h => ⟨⟨by omega, by omega, by omega⟩, hk2, ?_⟩⟩
    refine callF_of (Tryz.rneg (p.l k) (by omega)) ?_
    (refine ev ?_; try with_reducible exact trivial)
    refine callF_of (Tryz.kquo (-p.l k) (p.gr k) (by rw [rd_neg]; omega) (by omega) h) ?_
    (refine ev ?_; try with_reducible exact trivial)
    refine callF_of (Tryz.rsign (p.gr k) (by omega)) ?_
    simp only [evX, evY, evZ, forall_const, implies_true, initE, stepF, D.clean, mvF, moF, tkF, shF, ariF, ciF, catF, scF, ebF, eqF, eqOk, eqPr, enF, notF, ngF, cvF, csF, csbF, lenF, lenSF, ixF, iaF, PX.slot, iaAF, faF, ldF, D.mem, stF, bxF, mkSF, boundF, fldF, ixAF, mmF2, D.plain, D.isPure, optAll, D.dull, callVF, splice, D.cells, D.one, sets, resT, D.flat, D.flat0, D.simple, Nat.reduceBNe, Nat.reduceLT, reduceIte, Nat.reduceEqDiff, Nat.reduceAdd, Nat.reduceMul, Nat.reduceSub, Nat.reduceLeDiff, Int.reduceToNat, Int.reduceLT, Int.reduceLE, Int.reduceEq, Int.reduceNeg, Int.reduceSub, Int.reduceAdd, Int.reduceMul, stG_own, sgn_gt]
    generalize hq : -p.l k / p.gr k = q at *
    by_cases hg : 0 < p.gr k
    · have er2 : rch p (k + 1) = if upB o1 q = true then (some q, o2) else (o1, o2) := by rw [er, rStep, if_neg h, if_pos hg, hq]
      cases o1 with
      | none =>
        simp only [optT_n, hg, evX, evY, evZ, forall_const, implies_true, initE, stepF, D.clean, mvF, moF, tkF, shF, ariF, ciF, catF, scF, ebF, eqF, eqOk, eqPr, enF, notF, ngF, cvF, csF, csbF, lenF, lenSF, ixF, iaF, PX.slot, iaAF, faF, ldF, D.mem, stF, bxF, mkSF, boundF, fldF, ixAF, mmF2, D.plain, D.isPure, optAll, D.dull, callVF, splice, D.cells, D.one, sets, resT, D.flat, D.flat0, D.simple, Nat.reduceBNe, Nat.reduceLT, reduceIte, Nat.reduceEqDiff, Nat.reduceAdd, Nat.reduceMul, Nat.reduceSub, Nat.reduceLeDiff, Int.reduceToNat, Int.reduceLT, Int.reduceLE, Int.reduceEq, Int.reduceNeg, Int.reduceSub, Int.reduceAdd, Int.reduceMul, stG_own]
        exact ⟨by omega, ⟨k + 1, by omega, by rw [er2]; rfl, by rw [er2]; rfl, rfl⟩, by omega⟩
      | some x =>
        have z4 : rd x ≤ 110 := s1 x rfl
        simp only [optT_s, rt_nil, hg, evX, evY, evZ, forall_const, implies_true, initE, stepF, D.clean, mvF, moF, tkF, shF, ariF, ciF, catF, scF, ebF, eqF, eqOk, eqPr, enF, notF, ngF, cvF, csF, csbF, lenF, lenSF, ixF, iaF, PX.slot, iaAF, faF, ldF, D.mem, stF, bxF, mkSF, boundF, fldF, ixAF, mmF2, D.plain, D.isPure, optAll, D.dull, callVF, splice, D.cells, D.one, sets, resT, D.flat, D.flat0, D.simple, Nat.reduceBNe, Nat.reduceLT, reduceIte, Nat.reduceEqDiff, Nat.reduceAdd, Nat.reduceMul, Nat.reduceSub, Nat.reduceLeDiff, Int.reduceToNat, Int.reduceLT, Int.reduceLE, Int.reduceEq, Int.reduceNeg, Int.reduceSub, Int.reduceAdd, Int.reduceMul, stG_own]
        refine callF_of (Tryz.rcompare q x (by omega) (by omega)) ?_
        simp only [evX, evY, evZ, forall_const, implies_true, initE, stepF, D.clean, mvF, moF, tkF, shF, ariF, ciF, catF, scF, ebF, eqF, eqOk, eqPr, enF, notF, ngF, cvF, csF, csbF, lenF, lenSF, ixF, iaF, PX.slot, iaAF, faF, ldF, D.mem, stF, bxF, mkSF, boundF, fldF, ixAF, mmF2, D.plain, D.isPure, optAll, D.dull, callVF, splice, D.cells, D.one, sets, resT, D.flat, D.flat0, D.simple, Nat.reduceBNe, Nat.reduceLT, reduceIte, Nat.reduceEqDiff, Nat.reduceAdd, Nat.reduceMul, Nat.reduceSub, Nat.reduceLeDiff, Int.reduceToNat, Int.reduceLT, Int.reduceLE, Int.reduceEq, Int.reduceNeg, Int.reduceSub, Int.reduceAdd, Int.reduceMul, stG_own, cmp_gt]
        refine ⟨fun h5 => ?_, fun h5 => ?_⟩
        · exact ⟨by omega, ⟨k + 1, by omega, by rw [er2, if_pos (by simp [upB, h5])]; rfl, by rw [er2, if_pos (by simp [upB, h5])], rfl⟩, by omega⟩
        · have er3 : rch p (k + 1) = (some x, o2) := by rw [er2, if_neg (by simp [upB, h5])]
          have hg3 : ¬ p.gr k < 0 := by grind
          refine callF_of (Tryz.rsign (p.gr k) (by omega)) ?_
          simp only [evX, evY, evZ, forall_const, implies_true, initE, stepF, D.clean, mvF, moF, tkF, shF, ariF, ciF, catF, scF, ebF, eqF, eqOk, eqPr, enF, notF, ngF, cvF, csF, csbF, lenF, lenSF, ixF, iaF, PX.slot, iaAF, faF, ldF, D.mem, stF, bxF, mkSF, boundF, fldF, ixAF, mmF2, D.plain, D.isPure, optAll, D.dull, callVF, splice, D.cells, D.one, sets, resT, D.flat, D.flat0, D.simple, Nat.reduceBNe, Nat.reduceLT, reduceIte, Nat.reduceEqDiff, Nat.reduceAdd, Nat.reduceMul, Nat.reduceSub, Nat.reduceLeDiff, Int.reduceToNat, Int.reduceLT, Int.reduceLE, Int.reduceEq, Int.reduceNeg, Int.reduceSub, Int.reduceAdd, Int.reduceMul, stG_own, sgn_lt, hg3]
          exact ⟨by omega, ⟨k + 1, by omega, by rw [er3]; rfl, by rw [er3], rfl⟩, by omega⟩
    · have hg2 : p.gr k < 0 := by grind
      have er2 : rch p (k + 1) = if dnB o2 q = true then (o1, some q) else (o1, o2) := by rw [er, rStep, if_neg h, if_neg hg, hq]
      simp only [hg, evX, evY, evZ, forall_const, implies_true, initE, stepF, D.clean, mvF, moF, tkF, shF, ariF, ciF, catF, scF, ebF, eqF, eqOk, eqPr, enF, notF, ngF, cvF, csF, csbF, lenF, lenSF, ixF, iaF, PX.slot, iaAF, faF, ldF, D.mem, stF, bxF, mkSF, boundF, fldF, ixAF, mmF2, D.plain, D.isPure, optAll, D.dull, callVF, splice, D.cells, D.one, sets, resT, D.flat, D.flat0, D.simple, Nat.reduceBNe, Nat.reduceLT, reduceIte, Nat.reduceEqDiff, Nat.reduceAdd, Nat.reduceMul, Nat.reduceSub, Nat.reduceLeDiff, Int.reduceToNat, Int.reduceLT, Int.reduceLE, Int.reduceEq, Int.reduceNeg, Int.reduceSub, Int.reduceAdd, Int.reduceMul, stG_own]
      refine callF_of (Tryz.rsign (p.gr k) (by omega)) ?_
      simp only [evX, evY, evZ, forall_const, implies_true, initE, stepF, D.clean, mvF, moF, tkF, shF, ariF, ciF, catF, scF, ebF, eqF, eqOk, eqPr, enF, notF, ngF, cvF, csF, csbF, lenF, lenSF, ixF, iaF, PX.slot, iaAF, faF, ldF, D.mem, stF, bxF, mkSF, boundF, fldF, ixAF, mmF2, D.plain, D.isPure, optAll, D.dull, callVF, splice, D.cells, D.one, sets, resT, D.flat, D.flat0, D.simple, Nat.reduceBNe, Nat.reduceLT, reduceIte, Nat.reduceEqDiff, Nat.reduceAdd, Nat.reduceMul, Nat.reduceSub, Nat.reduceLeDiff, Int.reduceToNat, Int.reduceLT, Int.reduceLE, Int.reduceEq, Int.reduceNeg, Int.reduceSub, Int.reduceAdd, Int.reduceMul, stG_own, sgn_lt]
      cases o2 with
      | none =>
        simp only [optT_n, hg2, evX, evY, evZ, forall_const, implies_true, initE, stepF, D.clean, mvF, moF, tkF, shF, ariF, ciF, catF, scF, ebF, eqF, eqOk, eqPr, enF, notF, ngF, cvF, csF, csbF, lenF, lenSF, ixF, iaF, PX.slot, iaAF, faF, ldF, D.mem, stF, bxF, mkSF, boundF, fldF, ixAF, mmF2, D.plain, D.isPure, optAll, D.dull, callVF, splice, D.cells, D.one, sets, resT, D.flat, D.flat0, D.simple, Nat.reduceBNe, Nat.reduceLT, reduceIte, Nat.reduceEqDiff, Nat.reduceAdd, Nat.reduceMul, Nat.reduceSub, Nat.reduceLeDiff, Int.reduceToNat, Int.reduceLT, Int.reduceLE, Int.reduceEq, Int.reduceNeg, Int.reduceSub, Int.reduceAdd, Int.reduceMul, stG_own]
        exact ⟨by omega, ⟨k + 1, by omega, by rw [er2]; rfl, by rw [er2]; rfl, rfl⟩, by omega⟩
      | some x =>
        have z4 : rd x ≤ 110 := s2 x rfl
        simp only [optT_s, rt_nil, hg2, evX, evY, evZ, forall_const, implies_true, initE, stepF, D.clean, mvF, moF, tkF, shF, ariF, ciF, catF, scF, ebF, eqF, eqOk, eqPr, enF, notF, ngF, cvF, csF, csbF, lenF, lenSF, ixF, iaF, PX.slot, iaAF, faF, ldF, D.mem, stF, bxF, mkSF, boundF, fldF, ixAF, mmF2, D.plain, D.isPure, optAll, D.dull, callVF, splice, D.cells, D.one, sets, resT, D.flat, D.flat0, D.simple, Nat.reduceBNe, Nat.reduceLT, reduceIte, Nat.reduceEqDiff, Nat.reduceAdd, Nat.reduceMul, Nat.reduceSub, Nat.reduceLeDiff, Int.reduceToNat, Int.reduceLT, Int.reduceLE, Int.reduceEq, Int.reduceNeg, Int.reduceSub, Int.reduceAdd, Int.reduceMul, stG_own]
        refine callF_of (Tryz.rcompare q x (by omega) (by omega)) ?_
        simp only [evX, evY, evZ, forall_const, implies_true, initE, stepF, D.clean, mvF, moF, tkF, shF, ariF, ciF, catF, scF, ebF, eqF, eqOk, eqPr, enF, notF, ngF, cvF, csF, csbF, lenF, lenSF, ixF, iaF, PX.slot, iaAF, faF, ldF, D.mem, stF, bxF, mkSF, boundF, fldF, ixAF, mmF2, D.plain, D.isPure, optAll, D.dull, callVF, splice, D.cells, D.one, sets, resT, D.flat, D.flat0, D.simple, Nat.reduceBNe, Nat.reduceLT, reduceIte, Nat.reduceEqDiff, Nat.reduceAdd, Nat.reduceMul, Nat.reduceSub, Nat.reduceLeDiff, Int.reduceToNat, Int.reduceLT, Int.reduceLE, Int.reduceEq, Int.reduceNeg, Int.reduceSub, Int.reduceAdd, Int.reduceMul, stG_own, cmp_lt]
        refine ⟨fun h5 => ?_, fun h5 => ?_⟩
        · exact ⟨by omega, ⟨k + 1, by omega, by rw [er2, if_pos (by simp [dnB, h5])], by rw [er2, if_pos (by simp [dnB, h5])]; rfl, rfl⟩, by omega⟩
        · have er3 : rch p (k + 1) = (o1, some x) := by rw [er2, if_neg (by simp [dnB, h5])]
          exact ⟨by omega, ⟨k + 1, by omega, by rw [er3], by rw [er3]; rfl, rfl⟩, by omega⟩
  · obtain rfl : k = p.n := by omega
    obtain ⟨s1, s2⟩ := rch_sz hp (k := p.n) (by omega)
    generalize rch p p.n = o at *
    obtain ⟨o1, o2⟩ := o
    simp only at s1 s2 ⊢
    refine loopF_of (fun E => ∃ k : Nat, k ≤ 2 ∧ E = [(2, .str (optT o1)), (3, .str (optT o2)), (67, .own true 22 2 [.str (optT o1), .str (optT o2)]), (68, .int .i64 2), (69, .int .i64 k)])
      (fun E => match lk E 69 with | .int _ i => 2 - i.toNat | _ => 0) ⟨0, Nat.zero_le _, rfl⟩ ?_
    rintro _ ⟨k, hk, rfl⟩
    obtain rfl | rfl | rfl : k = 0 ∨ k = 1 ∨ k = 2 := by omega
    · cases o1 with
      | none =>
        simp only [optT_n, evX, evY, evZ, forall_const, implies_true, initE, stepF, D.clean, mvF, moF, tkF, shF, ariF, ciF, catF, scF, ebF, eqF, eqOk, eqPr, enF, notF, ngF, cvF, csF, csbF, lenF, lenSF, ixF, iaF, PX.slot, iaAF, faF, ldF, D.mem, stF, bxF, mkSF, boundF, fldF, ixAF, mmF2, D.plain, D.isPure, optAll, D.dull, callVF, splice, D.cells, D.one, sets, resT, D.flat, D.flat0, D.simple, Nat.reduceBNe, Nat.reduceLT, reduceIte, Nat.reduceEqDiff, Nat.reduceAdd, Nat.reduceMul, Nat.reduceSub, Nat.reduceLeDiff, Int.reduceToNat, Int.reduceLT, Int.reduceLE, Int.reduceEq, Int.reduceNeg, Int.reduceSub, Int.reduceAdd, Int.reduceMul, stG_own]
        exact ⟨fun _ => ⟨by decide, by decide, ⟨1, by omega, rfl⟩, by decide⟩, fun h => absurd (by decide) h⟩
      | some x =>
        have z : rd x ≤ 110 := s1 x rfl
        simp only [optT_s, rt_nil, evX, evY, evZ, forall_const, implies_true, initE, stepF, D.clean, mvF, moF, tkF, shF, ariF, ciF, catF, scF, ebF, eqF, eqOk, eqPr, enF, notF, ngF, cvF, csF, csbF, lenF, lenSF, ixF, iaF, PX.slot, iaAF, faF, ldF, D.mem, stF, bxF, mkSF, boundF, fldF, ixAF, mmF2, D.plain, D.isPure, optAll, D.dull, callVF, splice, D.cells, D.one, sets, resT, D.flat, D.flat0, D.simple, Nat.reduceBNe, Nat.reduceLT, reduceIte, Nat.reduceEqDiff, Nat.reduceAdd, Nat.reduceMul, Nat.reduceSub, Nat.reduceLeDiff, Int.reduceToNat, Int.reduceLT, Int.reduceLE, Int.reduceEq, Int.reduceNeg, Int.reduceSub, Int.reduceAdd, Int.reduceMul, stG_own]
        refine ⟨fun _ => ⟨by decide, ?_⟩, fun h => absurd (by decide) h⟩
        refine callF_of (Tryz.rcheckQ x (by omega)) ?_
        (refine ev ?_; try with_reducible exact trivial)
        exact ⟨by decide, ⟨1, by omega, rfl⟩, by decide⟩
    · cases o2 with
      | none =>
        simp only [optT_n, evX, evY, evZ, forall_const, implies_true, initE, stepF, D.clean, mvF, moF, tkF, shF, ariF, ciF, catF, scF, ebF, eqF, eqOk, eqPr, enF, notF, ngF, cvF, csF, csbF, lenF, lenSF, ixF, iaF, PX.slot, iaAF, faF, ldF, D.mem, stF, bxF, mkSF, boundF, fldF, ixAF, mmF2, D.plain, D.isPure, optAll, D.dull, callVF, splice, D.cells, D.one, sets, resT, D.flat, D.flat0, D.simple, Nat.reduceBNe, Nat.reduceLT, reduceIte, Nat.reduceEqDiff, Nat.reduceAdd, Nat.reduceMul, Nat.reduceSub, Nat.reduceLeDiff, Int.reduceToNat, Int.reduceLT, Int.reduceLE, Int.reduceEq, Int.reduceNeg, Int.reduceSub, Int.reduceAdd, Int.reduceMul, stG_own]
        exact ⟨fun _ => ⟨by decide, by decide, ⟨2, by omega, rfl⟩, by decide⟩, fun h => absurd (by decide) h⟩
      | some x =>
        have z : rd x ≤ 110 := s2 x rfl
        simp only [optT_s, rt_nil, evX, evY, evZ, forall_const, implies_true, initE, stepF, D.clean, mvF, moF, tkF, shF, ariF, ciF, catF, scF, ebF, eqF, eqOk, eqPr, enF, notF, ngF, cvF, csF, csbF, lenF, lenSF, ixF, iaF, PX.slot, iaAF, faF, ldF, D.mem, stF, bxF, mkSF, boundF, fldF, ixAF, mmF2, D.plain, D.isPure, optAll, D.dull, callVF, splice, D.cells, D.one, sets, resT, D.flat, D.flat0, D.simple, Nat.reduceBNe, Nat.reduceLT, reduceIte, Nat.reduceEqDiff, Nat.reduceAdd, Nat.reduceMul, Nat.reduceSub, Nat.reduceLeDiff, Int.reduceToNat, Int.reduceLT, Int.reduceLE, Int.reduceEq, Int.reduceNeg, Int.reduceSub, Int.reduceAdd, Int.reduceMul, stG_own]
        refine ⟨fun _ => ⟨by decide, ?_⟩, fun h => absurd (by decide) h⟩
        refine callF_of (Tryz.rcheckQ x (by omega)) ?_
        (refine ev ?_; try with_reducible exact trivial)
        exact ⟨by decide, ⟨2, by omega, rfl⟩, by decide⟩
    · (refine ev ?_; try with_reducible exact trivial)
      exact ⟨fun h => absurd h (by decide), fun _ => rfl⟩
end Go.Proofs

/-
  KINK: Fold and Unfold. Own work.
-/
namespace Go.Proofs
open Go Go.Pi Go.RowKit Go.Ar Go.Ge Go.Kk

theorem Tryz.cuFold : ∀ c, Tryz.f34.body = some c → ∀ q ∈ cusL c pc34, CusOk Tryz.prog Tryz.L q.1 q.2.1 q.2.2 := by
  intro c hc q hq
  cases Option.some.inj hc
  simp only [pc34, cusL, List.nil_append, List.append_nil, List.mem_singleton, List.cons_append] at hq
  subst hq
  exact seqT_ok Tryz.hL Tryz.seqDom (by kernel_rfl)
theorem Tryz.cuUnfold : ∀ c, Tryz.f24.body = some c → ∀ q ∈ cusL c pc24, CusOk Tryz.prog Tryz.L q.1 q.2.1 q.2.2 := by
  intro c hc q hq
  cases Option.some.inj hc
  simp only [pc24, cusL, List.nil_append, List.append_nil, List.mem_singleton, List.cons_append] at hq
  subst hq
  exact seqT_ok Tryz.hL Tryz.seqDom (by kernel_rfl)

def foldD (o : Option Pt) : D := match o with
  | some q => .tup [ptD q, .int .i64 0]
  | none => .tup [.agg [.str [], .str []], .int .i64 28]
theorem rd_rst {p : Pf} (hp : PSz p) {h a : Rat} {m : Nat} (hh : rd h ≤ 200) (ha : rd a ≤ m) : ∀ {k : Nat}, k ≤ p.n → rd (p.rst h a k) ≤ m + k * 312
  | 0, _ => by simpa [Pf.rst] using ha
  | k + 1, hk => by
    have h1 := rd_rst hp hh ha (k := k) (by omega)
    have h2 := rd_ln hp hh (k := k) (by omega)
    have h3 := rd_sub (p.rst h a k) (p.ln h k)
    show rd (p.rst h a k - p.ln h k) ≤ _
    omega
theorem cmp_le {a b : Rat} : cmpQ a b ≤ 0 ↔ a ≤ b := by
  have := cmp_gt (a := a) (b := b)
  constructor
  · intro h; have h2 : ¬ b < a := fun z => by have := this.2 z; omega
    grind
  · intro h; have h2 : ¬ 0 < cmpQ a b := fun z => by have := this.1 z; grind
    omega

set_option maxHeartbeats 8000000 in
theorem Tryz.kFold (p : Pf) (hp : PSz p) (a h : Rat) (ha : rd a ≤ 200) (hh : rd h ≤ 200) (hz : ∀ k, k < p.n → (∀ j, j < k → ¬ p.rst h a j ≤ p.ln h j) → p.rst h a k ≤ p.ln h k → Sz 200 (p.fpt h a k)) :
    Con Tryz.prog Tryz.L 34 [.agg (pfD p), ptD (a, h)] (if p.win h = true then (if a < 0 then foldD none else foldD (p.fgo h a p.n 0)) else .tup [.agg [.str [], .str []], .int .i64 3]) := by
  have c0 := Tryz.kcheck p hp
  have c1 := Tryz.ppoint (a, h) ⟨ha, hh⟩
  have c2 := Tryz.kwithin p hp h (by omega)
  have c3 := Tryz.kbed p hp h (by omega)
  have c4 := Tryz.klen p hp h (by omega)
  have cd := Tryz.cdomains (L := Tryz.L) p
  have hn4 := hp.n
  simp only [pfD, ptD] at c0 c1 c2 c3 c4 cd ⊢
  have hal : aliasOf (if p.win h = true then (if a < 0 then foldD none else foldD (p.fgo h a p.n 0)) else .tup [.agg [.str [], .str []], .int .i64 3]) = none := by
    split
    · split
      · rfl
      · cases p.fgo h a p.n 0 <;> rfl
    · rfl
  refine rule34 Tryz.hL (fun q hq => by simp [PC.backs, pc34] at hq) Tryz.cuFold hal rfl rfl ?_
  (simp only [pc34, rs34, oU, oC]; refine ev ?_; try with_reducible exact trivial)
  refine callF_of c0 ?_
  (refine ev ?_; try with_reducible exact trivial)
  refine callF_of c1 ?_
  (refine ev ?_; try with_reducible exact trivial)
  refine callF_of c2 ?_
  cases hw : p.win h with
  | false =>
    (refine ev ?_; try with_reducible exact trivial)
    rfl
  | true =>
    (refine ev ?_; try with_reducible exact trivial)
    refine callF_of (Tryz.rsign a (by omega)) ?_
    simp only [evX, evY, evZ, forall_const, implies_true, initE, stepF, D.clean, mvF, moF, tkF, shF, ariF, ciF, catF, scF, ebF, eqF, eqOk, eqPr, enF, notF, ngF, cvF, csF, csbF, lenF, lenSF, ixF, iaF, PX.slot, iaAF, faF, ldF, D.mem, stF, bxF, mkSF, boundF, fldF, ixAF, mmF2, D.plain, D.isPure, optAll, D.dull, callVF, splice, D.cells, D.one, sets, resT, D.flat, D.flat0, D.simple, Nat.reduceBNe, Nat.reduceLT, reduceIte, Nat.reduceEqDiff, Nat.reduceAdd, Nat.reduceMul, Nat.reduceSub, Nat.reduceLeDiff, Int.reduceToNat, Int.reduceLT, Int.reduceLE, Int.reduceEq, Int.reduceNeg, Int.reduceSub, Int.reduceAdd, Int.reduceMul, stG_own, sgn_lt]
    refine ⟨fun h1 => by rw [if_pos h1]; rfl, fun h1 => ?_⟩
    rw [if_neg h1]
    refine callF_of c3 ?_
    (refine ev ?_; try with_reducible exact trivial)
    refine callF_of c4 ?_
    (refine ev ?_; try with_reducible exact trivial)
    refine callF_of cd ?_
    (refine ev ?_; try with_reducible exact trivial)
    refine seqT_of (lst p.n fun k => .agg (dmD (p.dm k))) (fun k E1 => (∀ j, j < k → ¬ p.rst h a j ≤ p.ln h j) ∧ p.fgo h a p.n 0 = p.fgo h a (p.n - k) k ∧ k ≤ p.n ∧ E1 = [(4, .box true [.str [], .str []]), (5, .box true [.int .i64 0]), (8, .box true [.str (rt (p.rst h a k))]), (9, .gbox 1000009), (10, .gbox 1000010), (46, .clo 115 [.pt (pfD p)]), (1000009, .own true 25 (p.n + 1) (pts (lst (p.n + 1) (p.bd h)))), (1000010, .own true 22 p.n (nms p.n (p.ln h)))]) rfl ⟨p, rfl, hp, rfl⟩ ⟨fun j hj => absurd hj (by omega), rfl, by omega, rfl⟩ ?_ ?_ ?_
    · rintro k E1 ⟨_, _, _, rfl⟩; rfl
    · rintro E1 ⟨hno, he, _, rfl⟩
      rw [lst_len] at he
      (refine ev ?_; try with_reducible exact trivial)
      rw [he, Nat.sub_self]
      rfl
    · rintro k E1 d hd ⟨hno, he, hk0, rfl⟩
      obtain ⟨hk, rfl⟩ := lst_some hd
      refine ⟨rfl, ?_⟩
      simp only [dmD, Pf.dm, evX, evY, evZ, forall_const, implies_true, initE, stepF, D.clean, mvF, moF, tkF, shF, ariF, ciF, catF, scF, ebF, eqF, eqOk, eqPr, enF, notF, ngF, cvF, csF, csbF, lenF, lenSF, ixF, iaF, PX.slot, iaAF, faF, ldF, D.mem, stF, bxF, mkSF, boundF, fldF, ixAF, mmF2, D.plain, D.isPure, optAll, D.dull, callVF, splice, D.cells, D.one, sets, resT, D.flat, D.flat0, D.simple, Nat.reduceBNe, Nat.reduceLT, reduceIte, Nat.reduceEqDiff, Nat.reduceAdd, Nat.reduceMul, Nat.reduceSub, Nat.reduceLeDiff, Int.reduceToNat, Int.reduceLT, Int.reduceLE, Int.reduceEq, Int.reduceNeg, Int.reduceSub, Int.reduceAdd, Int.reduceMul, stG_own, asgQ_nrm, ldC_nmsO, nms_len]
      have z1 := rd_rst hp hh ha hk0
      have z2 := rd_ln hp hh hk
      have z3 : k * 312 ≤ 4 * 312 := Nat.mul_le_mul (by omega) (by omega)
      have hm : p.n - k = (p.n - (k + 1)) + 1 := by omega
      refine ⟨⟨by omega, by omega, by omega⟩, hk, ?_⟩
      refine callF_of (Tryz.rcompare _ _ (by omega) (by omega)) ?_
      simp only [evX, evY, evZ, forall_const, implies_true, initE, stepF, D.clean, mvF, moF, tkF, shF, ariF, ciF, catF, scF, ebF, eqF, eqOk, eqPr, enF, notF, ngF, cvF, csF, csbF, lenF, lenSF, ixF, iaF, PX.slot, iaAF, faF, ldF, D.mem, stF, bxF, mkSF, boundF, fldF, ixAF, mmF2, D.plain, D.isPure, optAll, D.dull, callVF, splice, D.cells, D.one, sets, resT, D.flat, D.flat0, D.simple, Nat.reduceBNe, Nat.reduceLT, reduceIte, Nat.reduceEqDiff, Nat.reduceAdd, Nat.reduceMul, Nat.reduceSub, Nat.reduceLeDiff, Int.reduceToNat, Int.reduceLT, Int.reduceLE, Int.reduceEq, Int.reduceNeg, Int.reduceSub, Int.reduceAdd, Int.reduceMul, stG_own, cmp_le, ldC_ptsL, ptsL_len, ldC_nmsO, nms_len, pD]
      refine ⟨fun h5 => ?_, fun h5 => ?_⟩
      · have s1 : Sz 500 (p.bd h k) := ((hp.at' k hk0).pl (hp.ax k hk0) hh).mono (by omega)
        have ca := Tryz.kplus (p.bd h k) (dirK (p.t k)) (p.rst h a k) (s1.mono (by omega)) ((hp.dir hk).mono (by omega)) (by omega)
        have cb := Tryz.kplace _ (hz k hk hno h5)
        have e1 : p.fgo h a p.n 0 = some (p.fpt h a k) := by rw [he, hm, Pf.fgo, if_pos h5]
        simp only [ptD, Pf.fpt] at ca cb
        refine ⟨⟨by omega, by omega, by omega⟩, by omega, ?_⟩
        refine callF_of ca ?_
        (refine ev ?_; try with_reducible exact trivial)
        refine callF_of cb ?_
        simp only [evX, evY, evZ, forall_const, implies_true, initE, stepF, D.clean, mvF, moF, tkF, shF, ariF, ciF, catF, scF, ebF, eqF, eqOk, eqPr, enF, notF, ngF, cvF, csF, csbF, lenF, lenSF, ixF, iaF, PX.slot, iaAF, faF, ldF, D.mem, stF, bxF, mkSF, boundF, fldF, ixAF, mmF2, D.plain, D.isPure, optAll, D.dull, callVF, splice, D.cells, D.one, sets, resT, D.flat, D.flat0, D.simple, Nat.reduceBNe, Nat.reduceLT, reduceIte, Nat.reduceEqDiff, Nat.reduceAdd, Nat.reduceMul, Nat.reduceSub, Nat.reduceLeDiff, Int.reduceToNat, Int.reduceLT, Int.reduceLE, Int.reduceEq, Int.reduceNeg, Int.reduceSub, Int.reduceAdd, Int.reduceMul, stG_own, bodQ_ret]
        rw [e1]
        rfl
      · refine ⟨⟨by omega, by omega, by omega⟩, hk, ?_⟩
        refine callF_of (Tryz.rsub _ _ (by omega) (by omega)) ?_
        simp only [evX, evY, evZ, forall_const, implies_true, initE, stepF, D.clean, mvF, moF, tkF, shF, ariF, ciF, catF, scF, ebF, eqF, eqOk, eqPr, enF, notF, ngF, cvF, csF, csbF, lenF, lenSF, ixF, iaF, PX.slot, iaAF, faF, ldF, D.mem, stF, bxF, mkSF, boundF, fldF, ixAF, mmF2, D.plain, D.isPure, optAll, D.dull, callVF, splice, D.cells, D.one, sets, resT, D.flat, D.flat0, D.simple, Nat.reduceBNe, Nat.reduceLT, reduceIte, Nat.reduceEqDiff, Nat.reduceAdd, Nat.reduceMul, Nat.reduceSub, Nat.reduceLeDiff, Int.reduceToNat, Int.reduceLT, Int.reduceLE, Int.reduceEq, Int.reduceNeg, Int.reduceSub, Int.reduceAdd, Int.reduceMul, stG_own, bodQ_nrm]
        refine ⟨fun j hj => ?_, by rw [he, hm, Pf.fgo, if_neg h5], by omega, rfl⟩
        by_cases e : j = k
        · subst e; exact h5
        · exact hno j (by omega)

theorem cut_nms {n k : Nat} {f : Nat → Rat} (h : k ≤ n) : cut 1 0 k (nms n f) = nms k f := by
  have e := lst_cut n 0 k (fun k => D.str (rt (f k))) h (Nat.zero_le _)
  have h1 : k * 1 = k := Nat.mul_one k
  unfold cut
  simp only [h1]
  exact e

def unfD (o : Option Pt) : D := match o with
  | some q => .tup [ptD q, .bool true, .int .i64 0]
  | none => .tup [.agg [.str [], .str []], .bool false, .int .i64 0]

set_option maxHeartbeats 8000000 in
theorem Tryz.kUnfold (p : Pf) (hp : PSz p) (q : Pt) (hq : Sz 200 q) (hh : ∀ k, k < p.n → rd (p.hK q k) ≤ 300) (hz : ∀ k, k < p.n → p.inK q k = true → Sz 200 (sumN (p.ln (p.hK q k)) k + p.xK q k, p.hK q k)) :
    Con Tryz.prog Tryz.L 24 [.agg (pfD p), ptD q] (unfD (p.ugo q p.n 0)) := by
  have c0 := Tryz.kcheck p hp
  have c1 := Tryz.ppoint q hq
  have cd := Tryz.cdomains (L := Tryz.L) p
  have hn4 := hp.n
  have hal : aliasOf (unfD (p.ugo q p.n 0)) = none := by cases p.ugo q p.n 0 <;> rfl
  simp only [pfD, ptD] at c0 c1 cd ⊢
  refine rule24 Tryz.hL (fun q hq => by simp [PC.backs, pc24] at hq) Tryz.cuUnfold hal rfl rfl ?_
  (simp only [pc24, rs24, oU, oC]; refine ev ?_; try with_reducible exact trivial)
  refine callF_of c0 ?_
  (refine ev ?_; try with_reducible exact trivial)
  refine callF_of c1 ?_
  (refine ev ?_; try with_reducible exact trivial)
  refine callF_of cd ?_
  (refine ev ?_; try with_reducible exact trivial)
  refine seqT_of (lst p.n fun k => .agg (dmD (p.dm k))) (fun k E1 => p.ugo q p.n 0 = p.ugo q (p.n - k) k ∧ k ≤ p.n ∧ E1 = [(2, .box true [.str (rt p.s.1), .str (rt p.s.2), .sl p.n (nms p.n p.t), .sl p.n (nms p.n p.l)]), (3, .box true [.str (rt q.1), .str (rt q.2)]), (4, .box true [.str [], .str []]), (5, .box true [.bool false]), (6, .box true [.int .i64 0]), (29, .clo 115 [.pt (pfD p)])]) rfl ⟨p, rfl, hp, rfl⟩ ⟨rfl, by omega, rfl⟩ ?_ ?_ ?_
  · rintro k E1 ⟨_, _, rfl⟩; rfl
  · rintro E1 ⟨he, _, rfl⟩
    rw [lst_len] at he
    (refine ev ?_; try with_reducible exact trivial)
    rw [he, Nat.sub_self]
    rfl
  · rintro k E1 d hd ⟨he, hk0, rfl⟩
    obtain ⟨hk, rfl⟩ := lst_some hd
    refine ⟨rfl, ?_⟩
    simp only [dmD, Pf.dm, evX, evY, evZ, forall_const, implies_true, initE, stepF, D.clean, mvF, moF, tkF, shF, ariF, ciF, catF, scF, ebF, eqF, eqOk, eqPr, enF, notF, ngF, cvF, csF, csbF, lenF, lenSF, ixF, iaF, PX.slot, iaAF, faF, ldF, D.mem, stF, bxF, mkSF, boundF, fldF, ixAF, mmF2, D.plain, D.isPure, optAll, D.dull, callVF, splice, D.cells, D.one, sets, resT, D.flat, D.flat0, D.simple, Nat.reduceBNe, Nat.reduceLT, reduceIte, Nat.reduceEqDiff, Nat.reduceAdd, Nat.reduceMul, Nat.reduceSub, Nat.reduceLeDiff, Int.reduceToNat, Int.reduceLT, Int.reduceLE, Int.reduceEq, Int.reduceNeg, Int.reduceSub, Int.reduceAdd, Int.reduceMul, stG_own, asgQ_nrm]
    have hm : p.n - k = (p.n - (k + 1)) + 1 := by omega
    have z0 := hh k hk
    have s1 := hq.mn (hp.at' k hk0)
    have ca := Tryz.kminus q (p.at' k) (hq.mono (by omega)) ((hp.at' k hk0).mono (by omega))
    have cb := Tryz.kdot (nrm (p.t k)) (Kk.mn q (p.at' k)) ((hp.nrm hk).mono (by omega)) (s1.mono (by omega))
    have cw := Tryz.kwithin p hp (p.hK q k) (by omega)
    simp only [pfD, ptD] at ca cb cw
    refine callF_of ca ?_
    (refine ev ?_; try with_reducible exact trivial)
    refine callF_of cb ?_
    (refine ev ?_; try with_reducible exact trivial)
    refine callF_of cw ?_
    cases hw : p.win (p.hK q k) with
    | false =>
      simp only [evX, evY, evZ, forall_const, implies_true, initE, stepF, D.clean, mvF, moF, tkF, shF, ariF, ciF, catF, scF, ebF, eqF, eqOk, eqPr, enF, notF, ngF, cvF, csF, csbF, lenF, lenSF, ixF, iaF, PX.slot, iaAF, faF, ldF, D.mem, stF, bxF, mkSF, boundF, fldF, ixAF, mmF2, D.plain, D.isPure, optAll, D.dull, callVF, splice, D.cells, D.one, sets, resT, D.flat, D.flat0, D.simple, Nat.reduceBNe, Nat.reduceLT, reduceIte, Nat.reduceEqDiff, Nat.reduceAdd, Nat.reduceMul, Nat.reduceSub, Nat.reduceLeDiff, Int.reduceToNat, Int.reduceLT, Int.reduceLE, Int.reduceEq, Int.reduceNeg, Int.reduceSub, Int.reduceAdd, Int.reduceMul, stG_own, bodQ_nrm]
      exact ⟨by rw [he, hm, Pf.ugo, if_neg (by simp [Pf.inK, hw])], by omega⟩
    | true =>
      have cd2 := Tryz.kbed p hp (p.hK q k) (by omega)
      have s2 : Sz 501 (p.bd (p.hK q k) k) := ((hp.at' k hk0).pl (hp.ax k hk0) z0).mono (by omega)
      have ce := Tryz.kminus q (p.bd (p.hK q k) k) (hq.mono (by omega)) (s2.mono (by omega))
      have s3 := hq.mn s2
      have cf := Tryz.kdot (dirK (p.t k)) (Kk.mn q (p.bd (p.hK q k) k)) ((hp.dir hk).mono (by omega)) (s3.mono (by omega))
      have z1 : rd (p.xK q k) ≤ 1495 := Nat.le_trans (rd_dt (hp.dir hk) s3) (by omega)
      have cg := Tryz.klen p hp (p.hK q k) (by omega)
      have z2 := rd_ln hp z0 hk
      have zs := rd_sumN (f := p.ln (p.hK q k)) (m := 411) (n := k) (fun j hj => rd_ln hp z0 (by omega))
      have zk : k * (411 + 1) ≤ 3 * 412 := Nat.mul_le_mul (by omega) (by omega)
      have cs := Tryz.ksum k (p.ln (p.hK q k)) (by omega) (fun j hj => by have := rd_ln hp z0 (k := j) (by omega); omega)
      simp only [pfD, ptD] at cd2 ce cf cg
      (refine ev ?_; try with_reducible exact trivial)
      refine callF_of cd2 ?_
      simp only [evX, evY, evZ, forall_const, implies_true, initE, stepF, D.clean, mvF, moF, tkF, shF, ariF, ciF, catF, scF, ebF, eqF, eqOk, eqPr, enF, notF, ngF, cvF, csF, csbF, lenF, lenSF, ixF, iaF, PX.slot, iaAF, faF, ldF, D.mem, stF, bxF, mkSF, boundF, fldF, ixAF, mmF2, D.plain, D.isPure, optAll, D.dull, callVF, splice, D.cells, D.one, sets, resT, D.flat, D.flat0, D.simple, Nat.reduceBNe, Nat.reduceLT, reduceIte, Nat.reduceEqDiff, Nat.reduceAdd, Nat.reduceMul, Nat.reduceSub, Nat.reduceLeDiff, Int.reduceToNat, Int.reduceLT, Int.reduceLE, Int.reduceEq, Int.reduceNeg, Int.reduceSub, Int.reduceAdd, Int.reduceMul, stG_own, ldC_ptsL, ptsL_len, pD]
      refine ⟨⟨by omega, by omega, by omega⟩, by omega, ?_⟩
      refine callF_of ce ?_
      (refine ev ?_; try with_reducible exact trivial)
      refine callF_of cf ?_
      (refine ev ?_; try with_reducible exact trivial)
      refine callF_of cg ?_
      (refine ev ?_; try with_reducible exact trivial)
      refine callF_of (Tryz.rsign (p.xK q k) (by omega)) ?_
      simp only [evX, evY, evZ, forall_const, implies_true, initE, stepF, D.clean, mvF, moF, tkF, shF, ariF, ciF, catF, scF, ebF, eqF, eqOk, eqPr, enF, notF, ngF, cvF, csF, csbF, lenF, lenSF, ixF, iaF, PX.slot, iaAF, faF, ldF, D.mem, stF, bxF, mkSF, boundF, fldF, ixAF, mmF2, D.plain, D.isPure, optAll, D.dull, callVF, splice, D.cells, D.one, sets, resT, D.flat, D.flat0, D.simple, Nat.reduceBNe, Nat.reduceLT, reduceIte, Nat.reduceEqDiff, Nat.reduceAdd, Nat.reduceMul, Nat.reduceSub, Nat.reduceLeDiff, Int.reduceToNat, Int.reduceLT, Int.reduceLE, Int.reduceEq, Int.reduceNeg, Int.reduceSub, Int.reduceAdd, Int.reduceMul, stG_own, sgn_lt, ldC_nmsO, nms_len, bodQ_nrm]
      refine ⟨fun h1 => ⟨⟨by omega, by omega, by omega⟩, hk, ?_⟩, fun h1 => ?_⟩
      · refine callF_of (Tryz.rcompare (p.xK q k) (p.ln (p.hK q k) k) (by omega) (by omega)) ?_
        simp only [evX, evY, evZ, forall_const, implies_true, initE, stepF, D.clean, mvF, moF, tkF, shF, ariF, ciF, catF, scF, ebF, eqF, eqOk, eqPr, enF, notF, ngF, cvF, csF, csbF, lenF, lenSF, ixF, iaF, PX.slot, iaAF, faF, ldF, D.mem, stF, bxF, mkSF, boundF, fldF, ixAF, mmF2, D.plain, D.isPure, optAll, D.dull, callVF, splice, D.cells, D.one, sets, resT, D.flat, D.flat0, D.simple, Nat.reduceBNe, Nat.reduceLT, reduceIte, Nat.reduceEqDiff, Nat.reduceAdd, Nat.reduceMul, Nat.reduceSub, Nat.reduceLeDiff, Int.reduceToNat, Int.reduceLT, Int.reduceLE, Int.reduceEq, Int.reduceNeg, Int.reduceSub, Int.reduceAdd, Int.reduceMul, stG_own, cmp_gt, bodQ_nrm]
        refine ⟨fun h2 => ⟨?_, by omega⟩, fun h2 => ?_⟩
        · rw [he, hm, Pf.ugo, if_neg]
          intro z
          simp only [Pf.inK, Bool.and_eq_true, decide_eq_true_eq] at z
          grind
        · have hin : p.inK q k = true := by
            simp only [Pf.inK, hw, Bool.true_and, decide_eq_true_eq]
            exact ⟨by grind, by grind⟩
          have e1 : p.ugo q p.n 0 = some (sumN (p.ln (p.hK q k)) k + p.xK q k, p.hK q k) := by rw [he, hm, Pf.ugo, if_pos hin]
          have cp := Tryz.kplace _ (hz k hk hin)
          simp only [ptD] at cp
          rw [nms_len, cut_nms hk0]
          refine ⟨by omega, by omega, by omega, rfl, ?_⟩
          refine callF_of cs ?_
          (refine ev ?_; try with_reducible exact trivial)
          refine callF_of (Tryz.radd _ (p.xK q k) (by omega) (by omega)) ?_
          (refine ev ?_; try with_reducible exact trivial)
          refine callF_of cp ?_
          simp only [evX, evY, evZ, forall_const, implies_true, initE, stepF, D.clean, mvF, moF, tkF, shF, ariF, ciF, catF, scF, ebF, eqF, eqOk, eqPr, enF, notF, ngF, cvF, csF, csbF, lenF, lenSF, ixF, iaF, PX.slot, iaAF, faF, ldF, D.mem, stF, bxF, mkSF, boundF, fldF, ixAF, mmF2, D.plain, D.isPure, optAll, D.dull, callVF, splice, D.cells, D.one, sets, resT, D.flat, D.flat0, D.simple, Nat.reduceBNe, Nat.reduceLT, reduceIte, Nat.reduceEqDiff, Nat.reduceAdd, Nat.reduceMul, Nat.reduceSub, Nat.reduceLeDiff, Int.reduceToNat, Int.reduceLT, Int.reduceLE, Int.reduceEq, Int.reduceNeg, Int.reduceSub, Int.reduceAdd, Int.reduceMul, stG_own, bodQ_ret]
          rw [e1]
          rfl
      · refine ⟨?_, by omega⟩
        rw [he, hm, Pf.ugo, if_neg]
        intro z
        simp only [Pf.inK, Bool.and_eq_true, decide_eq_true_eq] at z
        grind
end Go.Proofs

/-
  KINK: the examples of the chapter. Own work.
-/
namespace Go.Proofs
open Go Go.Pi Go.RowKit Go.Ar Go.Ge Go.Kk

theorem Tryz.kat (x y : Int) (hx : inR .i64 x) (hy : inR .i64 y) : Con Tryz.prog Tryz.L 44 [.int .i64 x, .int .i64 y] (ptD ((x : Rat), (y : Rat))) := by
  refine rule44 Tryz.hL rfl rfl rfl ?_
  simp only [ptD, pc44, rs44, oU, oC, evX, evY, evZ, forall_const, implies_true, initE, stepF, D.clean, mvF, moF, tkF, shF, ariF, ciF, catF, scF, ebF, eqF, eqOk, eqPr, enF, notF, ngF, cvF, csF, csbF, lenF, lenSF, ixF, iaF, PX.slot, iaAF, faF, ldF, D.mem, stF, bxF, mkSF, boundF, fldF, ixAF, mmF2, D.plain, D.isPure, optAll, D.dull, callVF, splice, D.cells, D.one, sets, resT, D.flat, D.flat0, D.simple, Nat.reduceBNe, Nat.reduceLT, reduceIte, Nat.reduceEqDiff, Nat.reduceAdd, Nat.reduceMul, Nat.reduceSub, Nat.reduceLeDiff, Int.reduceToNat, Int.reduceLT, Int.reduceLE, Int.reduceEq, Int.reduceNeg, Int.reduceSub, Int.reduceAdd, Int.reduceMul, stG_own]
  refine callF_of (Tryz.rwhole x hx) ?_
  (refine ev ?_; try with_reducible exact trivial)
  refine callF_of (Tryz.rwhole y hy) ?_
  (refine ev ?_; try with_reducible exact trivial)
  rfl

def exP : Pf := ⟨2, (0, 0), fun k => if k = 0 then 1 / 2 else -1 / 2, fun _ => 5⟩
theorem lt2 {P : Nat → Prop} (h0 : P 0) (h1 : P 1) : ∀ k, k < 2 → P k := fun k hk => by
  obtain rfl | rfl : k = 0 ∨ k = 1 := by omega
  · exact h0
  · exact h1
theorem lt3 {P : Nat → Prop} (h0 : P 0) (h1 : P 1) (h2 : P 2) : ∀ k, k ≤ 2 → P k := fun k hk => by
  obtain rfl | rfl | rfl : k = 0 ∨ k = 1 ∨ k = 2 := by omega
  · exact h0
  · exact h1
  · exact h2
theorem exSz : PSz exP where
  n0 := by decide
  n := by decide
  t := lt2 (by decide +kernel) (by decide +kernel)
  l := lt2 (by decide +kernel) (by decide +kernel)
  at' := lt3 ⟨by decide +kernel, by decide +kernel⟩ ⟨by decide +kernel, by decide +kernel⟩ ⟨by decide +kernel, by decide +kernel⟩
  ax := lt3 ⟨by decide +kernel, by decide +kernel⟩ ⟨by decide +kernel, by decide +kernel⟩ ⟨by decide +kernel, by decide +kernel⟩
  gr := lt2 (by decide +kernel) (by decide +kernel)
  ok := lt2 (by decide +kernel) (by decide +kernel)
theorem exD : pfD exP = [.str [48], .str [48], .sl 2 [.str [49, 47, 50], .str [45, 49, 47, 50]], .sl 2 [.str [53], .str [53]]] := by
  have e1 : rt (0 : Rat) = [48] := rt0'
  have e2 : rt (1 / 2 : Rat) = [49, 47, 50] := by decide +kernel
  have e3 : rt (-1 / 2 : Rat) = [45, 49, 47, 50] := by decide +kernel
  have e4 : rt (5 : Rat) = [53] := by decide +kernel
  show [D.str (rt (0 : Rat)), D.str (rt (0 : Rat)), .sl 2 [.str (rt (1 / 2 : Rat)), .str (rt (-1 / 2 : Rat))], .sl 2 [.str (rt (5 : Rat)), .str (rt (5 : Rat))]] = _
  rw [e1, e2, e3, e4]
theorem Tryz.kexample : Con Tryz.prog Tryz.L 53 [] (.agg (pfD exP)) := by
  have c := Tryz.kat 0 0 (inR_i64.2 (by omega)) (inR_i64.2 (by omega))
  rw [show ((0 : Int) : Rat) = 0 by decide +kernel] at c
  simp only [ptD, rt0'] at c
  rw [exD]
  refine rule53 Tryz.hL rfl rfl rfl ?_
  (simp only [pc53, rs53, oU, oC]; refine ev ?_; try with_reducible exact trivial)
  refine callF_of c ?_
  (refine ev ?_; try with_reducible exact trivial)
  rfl

set_option maxRecDepth 100000 in
set_option maxHeartbeats 8000000 in
theorem Tryz.kknown : Con Tryz.prog Tryz.L 13 [] (.bool true) := by
  have c1 := Tryz.kDirection (1 / 2) (by decide +kernel) ⟨by decide +kernel, by decide +kernel⟩
  have c2 := Tryz.kAxes exP exSz
  have c3 := Tryz.kReach exP exSz
  have c4 := Tryz.kArea exP exSz 0 3 (by decide +kernel) (by decide +kernel) (by decide +kernel)
  have c5 := Tryz.kUnfold exP exSz (3, 17 / 3) ⟨by decide +kernel, by decide +kernel⟩ (lt2 (by decide +kernel) (by decide +kernel)) (lt2 (fun _ => ⟨by decide +kernel, by decide +kernel⟩) (fun _ => ⟨by decide +kernel, by decide +kernel⟩))
  have c6 := Tryz.kat 3 4 (inR_i64.2 (by omega)) (inR_i64.2 (by omega))
  rw [show dirK (1 / 2) = (3 / 5, 4 / 5) by decide +kernel] at c1
  rw [show exP.n = 2 from rfl, show rch exP 2 = (some (-15 / 4), none) by decide +kernel] at c3
  rw [show (exP.win 0 && exP.win 3) = true by decide +kernel, if_pos rfl, if_pos (by decide +kernel), show (sumN (exP.ln 0) exP.n + sumN (exP.ln 3) exP.n) * (1 / 2) * (3 - 0) = 42 by decide +kernel] at c4
  rw [show exP.n = 2 from rfl, show exP.ugo (3, 17 / 3) 2 0 = some (19 / 3, 1) by decide +kernel] at c5
  have ea : axI exP = [.str [51], .str [52], .str [48], .str [53, 47, 51]] := by
    show axD (exP.at' 1, exP.ax 1) = _
    rw [show exP.at' 1 = (3, 4) by decide +kernel, show exP.ax 1 = (0, 5 / 3) by decide +kernel]
    show [D.str (rt (3 : Rat)), D.str (rt (4 : Rat)), D.str (rt (0 : Rat)), D.str (rt (5 / 3 : Rat))] = _
    rw [show rt (3 : Rat) = [51] by decide +kernel, show rt (4 : Rat) = [52] by decide +kernel, rt0', show rt (5 / 3 : Rat) = [53, 47, 51] by decide +kernel]
  rw [show exP.n - 1 = 1 from rfl, ea] at c2
  simp only [ptD, optT_s, optT_n, unfD, show rt (1 / 2 : Rat) = [49, 47, 50] by decide +kernel, show rt (3 / 5 : Rat) = [51, 47, 53] by decide +kernel, show rt (4 / 5 : Rat) = [52, 47, 53] by decide +kernel, show rt (-15 / 4 : Rat) = [45, 49, 53, 47, 52] by decide +kernel,
    rt0', rt1, show rt (3 : Rat) = [51] by decide +kernel, show rt (42 : Rat) = [52, 50] by decide +kernel, show rt (17 / 3 : Rat) = [49, 55, 47, 51] by decide +kernel, show rt (19 / 3 : Rat) = [49, 57, 47, 51] by decide +kernel,
    show ((3 : Int) : Rat) = 3 by decide +kernel, show ((4 : Int) : Rat) = 4 by decide +kernel, show rt (4 : Rat) = [52] by decide +kernel] at c1 c2 c3 c4 c5 c6
  have c0 := Tryz.kexample
  rw [exD] at c0 c2 c3 c4 c5
  refine rule13 Tryz.hL rfl rfl rfl ?_
  (simp only [pc13, rs13, oU, oC]; refine ev ?_; try with_reducible exact trivial)
  refine callF_of c0 ?_
  (refine ev ?_; try with_reducible exact trivial)
  refine callF_of c1 ?_
  (refine ev ?_; try with_reducible exact trivial)
  refine callF_of c2 ?_
  (refine ev ?_; try with_reducible exact trivial)
  refine callF_of c3 ?_
  (refine ev ?_; try with_reducible exact trivial)
  refine callF_of c4 ?_
  (refine ev ?_; try with_reducible exact trivial)
  refine callF_of c5 ?_
  (refine ev ?_; try with_reducible exact trivial)
  refine ⟨fun _ => ⟨by decide, ?_⟩, fun h => absurd rfl h⟩
  refine callF_of c6 ?_
  (refine ev ?_; try with_reducible exact trivial)
end Go.Proofs

/-
  KINK: the law of Direction. Own work.
-/
namespace Go.Proofs
open Go Go.Pi Go.RowKit Go.Ar Go.Ge Go.Kk

end Go.Proofs

/-
  KINK: Check of any profile; the law's. Own work.
-/
namespace Go.Proofs
open Go Go.Pi Go.RowKit Go.Ar Go.Ge Go.Kk

/-- a profile of any texts -/
structure TP where
  sx : List UInt8
  sy : List UInt8
  D : List (List UInt8)
  L : List (List UInt8)
abbrev txs (l : List (List UInt8)) : List D := l.map .str
def tpD (p : TP) : List D := [.str p.sx, .str p.sy, .sl p.D.length (txs p.D), .sl p.L.length (txs p.L)]

def badR (t l : List UInt8) : Prop := ∃ q r : Rat, t = rt q ∧ l = rt r ∧ (¬ (-1 < q ∧ q < 1) ∨ ¬ 0 < r)
open Classical in
noncomputable def stpE (t l : List UInt8) : Int := if okR t ∧ okR l then (if badR t l then 3 else 0) else 2
open Classical in
noncomputable def eGo (p : TP) : Nat → Nat → Int
  | 0, _ => 0
  | m + 1, k => if stpE (p.D.getD k []) (p.L.getD k []) = 0 then eGo p m (k + 1) else stpE (p.D.getD k []) (p.L.getD k [])
open Classical in
noncomputable def errT (p : TP) : Int :=
  if p.D.length = 0 then 13 else if 20 < p.D.length then 4 else if p.L.length ≠ p.D.length then 5 else if okR p.sx ∧ okR p.sy then eGo p p.D.length 0 else 2

structure TSz (p : TP) : Prop where
  sx : p.sx.length ≤ 20
  sy : p.sy.length ≤ 20
  D : ∀ k, (p.D.getD k []).length ≤ 20
  L : ∀ k, (p.L.getD k []).length ≤ 20
  dn : p.D.length ≤ 22
  ln : p.L.length ≤ 22

end Go.Proofs

/-
  KINK: every function reports the error of a profile that is no profile. Own work.
-/
namespace Go.Proofs
open Go Go.Pi Go.RowKit Go.Ar Go.Ge Go.Kk

section err
variable (p : TP) (hp : TSz p) (he : errT p ≠ 0)
include hp he
end err
end Go.Proofs

/-
  KINK: the law's model: beds, lengths, sums, comparisons. Own work.
-/
namespace Go.Proofs
open Go Go.Pi Go.RowKit Go.Ar Go.Ge Go.Kk

/-- the law's model of a profile -/
def moD (p : Pf) : List D := [.sl (p.n + 1) (pts (lst (p.n + 1) p.at')), .sl (p.n + 1) (pts (lst (p.n + 1) p.ax))]
theorem ldC_ptsT {n k t : Nat} {f : Nat → Pt} {N : EP} {E : Env} : ldC true 2 (List.take 2 (List.drop (k * 2) (pts (lst n f)))) t N E = (k < n ∧ N (st1 E t (.agg (pD (f k))))) := by
  rw [ldC_pts]
  by_cases h : k < n
  · simp [lst_at _ h, h]
  · have e : (lst n f)[k]? = none := List.getElem?_eq_none (by rw [lst_len]; omega)
    simp [e, h]

set_option maxHeartbeats 4000000 in
theorem Tryz.mbed (p : Pf) (hp : PSz p) (h : Rat) (hh : rd h ≤ 500) : Con Tryz.prog Tryz.L 32 [.agg (moD p), .str (rt h)] (.own true 25 (p.n + 1) (pts (lst (p.n + 1) (p.bd h)))) := by
  have hn4 := hp.n
  refine rule32 Tryz.hL rfl rfl rfl ?_
  simp only [moD, pc32, rs32, oU, oC, evX, evY, evZ, forall_const, implies_true, initE, stepF, D.clean, mvF, moF, tkF, shF, ariF, ciF, catF, scF, ebF, eqF, eqOk, eqPr, enF, notF, ngF, cvF, csF, csbF, lenF, lenSF, ixF, iaF, PX.slot, iaAF, faF, ldF, D.mem, stF, bxF, mkSF, boundF, fldF, ixAF, mmF2, D.plain, D.isPure, optAll, D.dull, callVF, splice, D.cells, D.one, sets, resT, D.flat, D.flat0, D.simple, Nat.reduceBNe, Nat.reduceLT, reduceIte, Nat.reduceEqDiff, Nat.reduceAdd, Nat.reduceMul, Nat.reduceSub, Nat.reduceLeDiff, Int.reduceToNat, Int.reduceLT, Int.reduceLE, Int.reduceEq, Int.reduceNeg, Int.reduceSub, Int.reduceAdd, Int.reduceMul, stG_own]
  refine loopF_of (fun E => ∃ k : Nat, k ≤ p.n + 1 ∧ E = [(1, .str (rt h)), (2, .box true [.sl (p.n + 1) (pts (lst (p.n + 1) p.at')), .sl (p.n + 1) (pts (lst (p.n + 1) p.ax))]), (5, .own true 25 k (pts (lst k (p.bd h)))), (6, .int .i64 k)])
    (fun E => match lk E 6 with | .int _ i => p.n + 1 - i.toNat | _ => 0) ⟨0, Nat.zero_le _, rfl⟩ ?_
  rintro _ ⟨k, hk, rfl⟩
  have hl2 := pts_len (lst k (p.bd h))
  rw [lst_len] at hl2
  simp only [evX, evY, evZ, forall_const, implies_true, initE, stepF, D.clean, mvF, moF, tkF, shF, ariF, ciF, catF, scF, ebF, eqF, eqOk, eqPr, enF, notF, ngF, cvF, csF, csbF, lenF, lenSF, ixF, iaF, PX.slot, iaAF, faF, ldF, D.mem, stF, bxF, mkSF, boundF, fldF, ixAF, mmF2, D.plain, D.isPure, optAll, D.dull, callVF, splice, D.cells, D.one, sets, resT, D.flat, D.flat0, D.simple, Nat.reduceBNe, Nat.reduceLT, reduceIte, Nat.reduceEqDiff, Nat.reduceAdd, Nat.reduceMul, Nat.reduceSub, Nat.reduceLeDiff, Int.reduceToNat, Int.reduceLT, Int.reduceLE, Int.reduceEq, Int.reduceNeg, Int.reduceSub, Int.reduceAdd, Int.reduceMul, stG_own, ldC_ptsT, ptsL_len]
  refine ⟨fun h3 => ?_, fun h3 => ?_⟩
  · have hk2 : k < p.n + 1 := by omega
    refine ⟨⟨by omega, by omega, by omega⟩, hk2, ⟨by omega, by omega, by omega⟩, hk2, ?_⟩
    have c := Tryz.lkplus (p.at' k) (p.ax k) h ((hp.at' k (by omega)).mono (by omega)) ((hp.ax k (by omega)).mono (by omega)) (by omega)
    simp only [ptD] at c
    refine callF_of c ?_
    (refine ev ?_; try with_reducible exact trivial)
    exact ⟨by omega, by omega, by omega, ⟨k + 1, by omega, by rw [lst_succ, pts_snoc]; exact ⟨rfl, rfl⟩⟩, by omega⟩
  · obtain rfl : k = p.n + 1 := by omega
    rfl
theorem nms_suc (n : Nat) (f : Nat → Rat) : nms (n + 1) f = nms n f ++ [.str (rt (f n))] := lst_succ n _
theorem dB_decide (p : Prop) [Decidable p] : dB p = decide p := by
  by_cases h : p <;> simp [dB, h]
theorem rt_z : rt (0 : Rat) = [48] := by decide +kernel
set_option maxHeartbeats 4000000 in
theorem Tryz.msum (n : Nat) (f : Nat → Rat) (hn : n ≤ 5) (hf : ∀ k, k < n → rd (f k) ≤ 420) : Con Tryz.prog Tryz.L 31 [.sl n (nms n f)] (.str (rt (sumN f n))) := by
  refine rule31 Tryz.hL rfl rfl rfl ?_
  (simp only [pc31, rs31, oU, oC]; refine ev ?_; try with_reducible exact trivial)
  refine loopF_of (fun E => ∃ k : Nat, k ≤ n ∧ E = [(0, .sl n (nms n f)), (3, .str (rt (sumN f k))), (4, .int .i64 k)])
    (fun E => match lk E 4 with | .int _ i => n - i.toNat | _ => 0) ⟨0, Nat.zero_le _, by rw [show rt (sumN f 0) = [48] from rt_z]; rfl⟩ ?_
  rintro _ ⟨k, hk, rfl⟩
  simp only [evX, evY, evZ, forall_const, implies_true, initE, stepF, D.clean, mvF, moF, tkF, shF, ariF, ciF, catF, scF, ebF, eqF, eqOk, eqPr, enF, notF, ngF, cvF, csF, csbF, lenF, lenSF, ixF, iaF, PX.slot, iaAF, faF, ldF, D.mem, stF, bxF, mkSF, boundF, fldF, ixAF, mmF2, D.plain, D.isPure, optAll, D.dull, callVF, splice, D.cells, D.one, sets, resT, D.flat, D.flat0, D.simple, Nat.reduceBNe, Nat.reduceLT, reduceIte, Nat.reduceEqDiff, Nat.reduceAdd, Nat.reduceMul, Nat.reduceSub, Nat.reduceLeDiff, Int.reduceToNat, Int.reduceLT, Int.reduceLE, Int.reduceEq, Int.reduceNeg, Int.reduceSub, Int.reduceAdd, Int.reduceMul, stG_own, ldC_nms, nms_len]
  refine ⟨fun h3 => ?_, fun h3 => ?_⟩
  · have hk2 : k < n := by omega
    refine ⟨⟨by omega, by omega, by omega⟩, hk2, ?_⟩
    have z := rd_sumN (f := f) (m := 420) (n := k) (fun j hj => hf j (by omega))
    have z2 : k * (420 + 1) ≤ 5 * 421 := Nat.mul_le_mul (by omega) (by omega)
    have z3 := hf k hk2
    refine callF_of (Tryz.radd _ _ (by omega) (by omega)) ?_
    (refine ev ?_; try with_reducible exact trivial)
    exact ⟨by omega, ⟨k + 1, by omega, rfl, rfl⟩, by omega⟩
  · obtain rfl : k = n := by omega
    rfl

set_option maxHeartbeats 8000000 in
theorem Tryz.mlen (p : Pf) (hp : PSz p) (h : Rat) (hh : rd h ≤ 300) : Con Tryz.prog Tryz.L 28 [.agg (moD p), .agg (pfD p), .str (rt h)] (.tup [.sl p.n (nms p.n (p.ln h)), .bool (p.win h)]) := by
  have hn4 := hp.n
  have cb := Tryz.mbed p hp h (by omega)
  simp only [moD] at cb
  refine rule28 Tryz.hL rfl rfl rfl ?_
  simp only [moD, pfD, pc28, rs28, oU, oC, evX, evY, evZ, forall_const, implies_true, initE, stepF, D.clean, mvF, moF, tkF, shF, ariF, ciF, catF, scF, ebF, eqF, eqOk, eqPr, enF, notF, ngF, cvF, csF, csbF, lenF, lenSF, ixF, iaF, PX.slot, iaAF, faF, ldF, D.mem, stF, bxF, mkSF, boundF, fldF, ixAF, mmF2, D.plain, D.isPure, optAll, D.dull, callVF, splice, D.cells, D.one, sets, resT, D.flat, D.flat0, D.simple, Nat.reduceBNe, Nat.reduceLT, reduceIte, Nat.reduceEqDiff, Nat.reduceAdd, Nat.reduceMul, Nat.reduceSub, Nat.reduceLeDiff, Int.reduceToNat, Int.reduceLT, Int.reduceLE, Int.reduceEq, Int.reduceNeg, Int.reduceSub, Int.reduceAdd, Int.reduceMul, stG_own]
  refine callF_of cb ?_
  (refine ev ?_; try with_reducible exact trivial)
  refine loopF_of (fun E => ∃ k : Nat, k ≤ p.n ∧ E = [(4, .box true [.str (rt p.s.1), .str (rt p.s.2), .sl p.n (nms p.n p.t), .sl p.n (nms p.n p.l)]), (8, .own true 25 (p.n + 1) (pts (lst (p.n + 1) (p.bd h)))), (9, .own true 22 k (nms k (p.ln h))), (10, .bool (decide (∀ j, j < k → 0 < p.ln h j))), (11, .int .i64 k)])
    (fun E => match lk E 11 with | .int _ i => p.n - i.toNat | _ => 0) ⟨0, Nat.zero_le _, by rw [decide_eq_true (fun j hj => absurd hj (Nat.not_lt_zero j))]; rfl⟩ ?_
  rintro _ ⟨k, hk, rfl⟩
  simp only [evX, evY, evZ, forall_const, implies_true, initE, stepF, D.clean, mvF, moF, tkF, shF, ariF, ciF, catF, scF, ebF, eqF, eqOk, eqPr, enF, notF, ngF, cvF, csF, csbF, lenF, lenSF, ixF, iaF, PX.slot, iaAF, faF, ldF, D.mem, stF, bxF, mkSF, boundF, fldF, ixAF, mmF2, D.plain, D.isPure, optAll, D.dull, callVF, splice, D.cells, D.one, sets, resT, D.flat, D.flat0, D.simple, Nat.reduceBNe, Nat.reduceLT, reduceIte, Nat.reduceEqDiff, Nat.reduceAdd, Nat.reduceMul, Nat.reduceSub, Nat.reduceLeDiff, Int.reduceToNat, Int.reduceLT, Int.reduceLE, Int.reduceEq, Int.reduceNeg, Int.reduceSub, Int.reduceAdd, Int.reduceMul, stG_own, ldC_nms, nms_len]
  refine ⟨fun h3 => ?_, fun h3 => ?_⟩
  · have hk2 : k < p.n := by omega
    refine ⟨⟨by omega, by omega, by omega⟩, hk2, ?_⟩
    have g1 := hp.t k hk2
    refine callF_of (Tryz.lkdir (p.t k) (by omega)) ?_
    simp only [ptD, evX, evY, evZ, forall_const, implies_true, initE, stepF, D.clean, mvF, moF, tkF, shF, ariF, ciF, catF, scF, ebF, eqF, eqOk, eqPr, enF, notF, ngF, cvF, csF, csbF, lenF, lenSF, ixF, iaF, PX.slot, iaAF, faF, ldF, D.mem, stF, bxF, mkSF, boundF, fldF, ixAF, mmF2, D.plain, D.isPure, optAll, D.dull, callVF, splice, D.cells, D.one, sets, resT, D.flat, D.flat0, D.simple, Nat.reduceBNe, Nat.reduceLT, reduceIte, Nat.reduceEqDiff, Nat.reduceAdd, Nat.reduceMul, Nat.reduceSub, Nat.reduceLeDiff, Int.reduceToNat, Int.reduceLT, Int.reduceLE, Int.reduceEq, Int.reduceNeg, Int.reduceSub, Int.reduceAdd, Int.reduceMul, stG_own, ldC_ptsL, ptsL_len]
    have e9 : ((k : Int) + 1).toNat = k + 1 := by omega
    rw [e9]
    have b1 : Sz 501 (p.bd h k) := ((hp.at' k (by omega)).pl (hp.ax k (by omega)) hh).mono (by omega)
    have b2 : Sz 501 (p.bd h (k + 1)) := ((hp.at' (k + 1) (by omega)).pl (hp.ax (k + 1) (by omega)) hh).mono (by omega)
    have cp := Tryz.lkplus (p.bd h (k + 1)) (p.bd h k) (-1) (b2.mono (by omega)) (b1.mono (by omega)) (by rw [rd_m1]; omega)
    rw [show rt (-1 : Rat) = [45, 49] by decide +kernel] at cp
    have cd := Tryz.lkdot (dirK (p.t k)) (Kk.mn (p.bd h (k + 1)) (p.bd h k)) ((hp.dir hk2).mono (by omega)) ((b2.mn b1).mono (by omega))
    rw [ln_eq] at cd
    have z := rd_ln hp hh hk2
    simp only [ptD] at cp cd
    refine ⟨⟨by omega, by omega⟩, ⟨by omega, by omega, by omega⟩, by omega, ⟨by omega, by omega, by omega⟩, by omega, ?_⟩
    refine callF_of cp ?_
    (refine ev ?_; try with_reducible exact trivial)
    refine callF_of cd ?_
    (refine ev ?_; try with_reducible exact trivial)
    refine ⟨by omega, by omega, ?_⟩
    by_cases hb : ∀ j, j < k → 0 < p.ln h j
    · rw [decide_eq_true hb]
      (refine ev ?_; try with_reducible exact trivial)
      refine callF_of (Tryz.rsign _ (by omega)) ?_
      (refine ev ?_; try with_reducible exact trivial)
      refine ⟨⟨by omega, by omega⟩, ⟨k + 1, by omega, by rw [nms_suc], ?_, rfl⟩, by omega⟩
      have e : dB (0 < (p.ln h k).num.sign) = decide (∀ (j : Nat), j < k + 1 → 0 < p.ln h j) := by
        rw [dB_decide, decide_eq_decide]
        rw [sgn_gt]
        exact ⟨fun z j hj => by rcases Nat.lt_succ_iff_lt_or_eq.1 hj with y | rfl; exact hb j y; exact z, fun z => z k (by omega)⟩
      rw [e]
    · rw [decide_eq_false hb]
      (refine ev ?_; try with_reducible exact trivial)
      refine ⟨⟨by omega, by omega⟩, ⟨k + 1, by omega, by rw [nms_suc], ?_, rfl⟩, by omega⟩
      rw [decide_eq_false (fun z => hb fun j hj => z j (by omega))]
  · obtain rfl : k = p.n := by omega
    rfl
set_option maxHeartbeats 4000000 in
theorem Tryz.msameN (n : Nat) (f : Nat → Rat) (hn : n ≤ 1000) : Con Tryz.prog Tryz.L 40 [.sl n (nms n f), .sl n (nms n f)] (.bool true) := by
  refine rule40 Tryz.hL rfl rfl rfl ?_
  (simp only [pc40, rs40, oU, oC]; refine ev ?_; try with_reducible exact trivial)
  refine loopF_of (fun E => ∃ k : Nat, k ≤ n ∧ E = [(0, .sl n (nms n f)), (1, .sl n (nms n f)), (5, .int .i64 k)])
    (fun E => match lk E 5 with | .int _ i => n - i.toNat | _ => 0) ⟨0, Nat.zero_le _, rfl⟩ ?_
  rintro _ ⟨k, hk, rfl⟩
  simp only [evX, evY, evZ, forall_const, implies_true, initE, stepF, D.clean, mvF, moF, tkF, shF, ariF, ciF, catF, scF, ebF, eqF, eqOk, eqPr, enF, notF, ngF, cvF, csF, csbF, lenF, lenSF, ixF, iaF, PX.slot, iaAF, faF, ldF, D.mem, stF, bxF, mkSF, boundF, fldF, ixAF, mmF2, D.plain, D.isPure, optAll, D.dull, callVF, splice, D.cells, D.one, sets, resT, D.flat, D.flat0, D.simple, Nat.reduceBNe, Nat.reduceLT, reduceIte, Nat.reduceEqDiff, Nat.reduceAdd, Nat.reduceMul, Nat.reduceSub, Nat.reduceLeDiff, Int.reduceToNat, Int.reduceLT, Int.reduceLE, Int.reduceEq, Int.reduceNeg, Int.reduceSub, Int.reduceAdd, Int.reduceMul, stG_own, ldC_nms, nms_len]
  refine fun h3 => ?_
  exact ⟨⟨by omega, by omega, by omega⟩, by omega, ⟨by omega, by omega, by omega⟩, by omega, by omega, ⟨k + 1, by omega, rfl⟩, by omega⟩
set_option maxHeartbeats 4000000 in
theorem Tryz.msameP (n : Nat) (f : Nat → Pt) (hn : n ≤ 1000) : Con Tryz.prog Tryz.L 33 [.sl n (pts (lst n f)), .sl n (pts (lst n f))] (.bool true) := by
  refine rule33 Tryz.hL rfl rfl rfl ?_
  (simp only [pc33, rs33, oU, oC]; refine ev ?_; try with_reducible exact trivial)
  refine loopF_of (fun E => ∃ k : Nat, k ≤ n ∧ E = [(0, .sl n (pts (lst n f))), (1, .sl n (pts (lst n f))), (5, .int .i64 k)])
    (fun E => match lk E 5 with | .int _ i => n - i.toNat | _ => 0) ⟨0, Nat.zero_le _, rfl⟩ ?_
  rintro _ ⟨k, hk, rfl⟩
  simp only [evX, evY, evZ, forall_const, implies_true, initE, stepF, D.clean, mvF, moF, tkF, shF, ariF, ciF, catF, scF, ebF, eqF, eqOk, eqPr, enF, notF, ngF, cvF, csF, csbF, lenF, lenSF, ixF, iaF, PX.slot, iaAF, faF, ldF, D.mem, stF, bxF, mkSF, boundF, fldF, ixAF, mmF2, D.plain, D.isPure, optAll, D.dull, callVF, splice, D.cells, D.one, sets, resT, D.flat, D.flat0, D.simple, Nat.reduceBNe, Nat.reduceLT, reduceIte, Nat.reduceEqDiff, Nat.reduceAdd, Nat.reduceMul, Nat.reduceSub, Nat.reduceLeDiff, Int.reduceToNat, Int.reduceLT, Int.reduceLE, Int.reduceEq, Int.reduceNeg, Int.reduceSub, Int.reduceAdd, Int.reduceMul, stG_own, ldC_ptsT, ptsL_len]
  refine fun h3 => ?_
  exact ⟨⟨by omega, by omega, by omega⟩, by omega, ⟨by omega, by omega, by omega⟩, by omega, by simp [pD, eqOk], fun z => z (by simp [pD, eqPr]), fun _ => ⟨by omega, ⟨k + 1, by omega, rfl⟩, by omega⟩⟩
theorem ln_zero (p : Pf) (k : Nat) : p.ln 0 k = p.l k := by unfold Pf.ln; grind
theorem ln_slope (p : Pf) (k : Nat) : p.ln 1 k - p.ln 0 k = p.gr k := by unfold Pf.ln; grind
theorem neg_div (a b : Rat) : -(a / b) = -a / b := by rw [Rat.div_def, Rat.div_def, Rat.neg_mul]

set_option maxHeartbeats 8000000 in
theorem Tryz.mreach (p : Pf) (hp : PSz p) : Con Tryz.prog Tryz.L 21 [.agg (moD p), .agg (pfD p)] (.tup [.str (optT (rch p p.n).1), .str (optT (rch p p.n).2)]) := by
  have hn4 := hp.n
  have c0 := Tryz.mlen p hp 0 (by rw [rd_zero0]; omega)
  have c1 := Tryz.mlen p hp 1 (by rw [rd_one1]; omega)
  rw [rt_z] at c0
  rw [rt1] at c1
  simp only [moD, pfD] at c0 c1
  refine rule21 Tryz.hL rfl rfl rfl ?_
  simp only [moD, pfD, pc21, rs21, oU, oC, evX, evY, evZ, forall_const, implies_true, initE, stepF, D.clean, mvF, moF, tkF, shF, ariF, ciF, catF, scF, ebF, eqF, eqOk, eqPr, enF, notF, ngF, cvF, csF, csbF, lenF, lenSF, ixF, iaF, PX.slot, iaAF, faF, ldF, D.mem, stF, bxF, mkSF, boundF, fldF, ixAF, mmF2, D.plain, D.isPure, optAll, D.dull, callVF, splice, D.cells, D.one, sets, resT, D.flat, D.flat0, D.simple, Nat.reduceBNe, Nat.reduceLT, reduceIte, Nat.reduceEqDiff, Nat.reduceAdd, Nat.reduceMul, Nat.reduceSub, Nat.reduceLeDiff, Int.reduceToNat, Int.reduceLT, Int.reduceLE, Int.reduceEq, Int.reduceNeg, Int.reduceSub, Int.reduceAdd, Int.reduceMul, stG_own]
  refine callF_of c0 ?_
  (refine ev ?_; try with_reducible exact trivial)
  refine callF_of c1 ?_
  (refine ev ?_; try with_reducible exact trivial)
  refine loopF_of (fun E => ∃ k : Nat, k ≤ p.n ∧ E = [(4, .str (optT (rch p k).1)), (5, .str (optT (rch p k).2)), (6, .sl p.n (nms p.n (p.ln 0))), (8, .sl p.n (nms p.n (p.ln 1))), (10, .int .i64 k)])
    (fun E => match lk E 10 with | .int _ i => p.n - i.toNat | _ => 0) ⟨0, Nat.zero_le _, rfl⟩ ?_
  rintro _ ⟨k, hk, rfl⟩
  simp only [evX, evY, evZ, forall_const, implies_true, initE, stepF, D.clean, mvF, moF, tkF, shF, ariF, ciF, catF, scF, ebF, eqF, eqOk, eqPr, enF, notF, ngF, cvF, csF, csbF, lenF, lenSF, ixF, iaF, PX.slot, iaAF, faF, ldF, D.mem, stF, bxF, mkSF, boundF, fldF, ixAF, mmF2, D.plain, D.isPure, optAll, D.dull, callVF, splice, D.cells, D.one, sets, resT, D.flat, D.flat0, D.simple, Nat.reduceBNe, Nat.reduceLT, reduceIte, Nat.reduceEqDiff, Nat.reduceAdd, Nat.reduceMul, Nat.reduceSub, Nat.reduceLeDiff, Int.reduceToNat, Int.reduceLT, Int.reduceLE, Int.reduceEq, Int.reduceNeg, Int.reduceSub, Int.reduceAdd, Int.reduceMul, stG_own, ldC_nms, nms_len]
  refine ⟨fun h3 => ?_, fun h3 => ?_⟩
  · have hk2 : k < p.n := by omega
    refine ⟨⟨by omega, by omega, by omega⟩, hk2, ⟨by omega, by omega, by omega⟩, hk2, ?_⟩
    have z1 := hp.l k hk2
    have z2 := hp.gr k hk2
    have z3 := rd_div (-p.l k) (p.gr k)
    rw [rd_neg] at z3
    have z4 := rd_ln hp (h := 0) (m := 1) (by rw [rd_zero0]; omega) hk2
    have z5 := rd_ln hp (h := 1) (m := 1) (by rw [rd_one1]; omega) hk2
    refine callF_of (Tryz.rsub _ _ (by omega) (by omega)) ?_
    rw [ln_slope]
    (refine ev ?_; try with_reducible exact trivial)
    refine callF_of (Tryz.rsign (p.gr k) (by omega)) ?_
    (refine ev ?_; try with_reducible exact trivial)
    obtain ⟨s1, s2⟩ := rch_sz hp (k := k) (by omega)
    have er : rch p (k + 1) = rStep p (rch p k) k := rfl
    generalize rch p k = o at *
    obtain ⟨o1, o2⟩ := o
    have hq : -(p.ln 0 k / p.gr k) = -p.l k / p.gr k := by rw [neg_div, ln_zero]
    have z6 := rd_div (p.ln 0 k) (p.gr k)
    generalize hqq : -p.l k / p.gr k = q at *
    rcases sgn_cases (p.gr k) with ⟨g, _, hs⟩ | ⟨g, _, hs⟩ | ⟨g, _, hs⟩
    · -- the length falls
      have er2 : rch p (k + 1) = if dnB o2 q = true then (o1, some q) else (o1, o2) := by rw [er, rStep, if_neg (by grind), if_neg (by grind), hqq]
      rw [hs]
      refine ⟨fun h => absurd h (by decide), fun _ => ?_⟩
      simp only [evX, evY, evZ, forall_const, implies_true, initE, stepF, D.clean, mvF, moF, tkF, shF, ariF, ciF, catF, scF, ebF, eqF, eqOk, eqPr, enF, notF, ngF, cvF, csF, csbF, lenF, lenSF, ixF, iaF, PX.slot, iaAF, faF, ldF, D.mem, stF, bxF, mkSF, boundF, fldF, ixAF, mmF2, D.plain, D.isPure, optAll, D.dull, callVF, splice, D.cells, D.one, sets, resT, D.flat, D.flat0, D.simple, Nat.reduceBNe, Nat.reduceLT, reduceIte, Nat.reduceEqDiff, Nat.reduceAdd, Nat.reduceMul, Nat.reduceSub, Nat.reduceLeDiff, Int.reduceToNat, Int.reduceLT, Int.reduceLE, Int.reduceEq, Int.reduceNeg, Int.reduceSub, Int.reduceAdd, Int.reduceMul, stG_own, ldC_nms, nms_len]
      refine ⟨⟨by omega, by omega, by omega⟩, hk2, ?_⟩
      refine callF_of (Tryz.lkover (p.ln 0 k) (p.gr k) (by omega) (by omega) (by grind)) ?_
      (refine ev ?_; try with_reducible exact trivial)
      refine callF_of (Tryz.rneg _ (by omega)) ?_
      rw [hq]
      (refine ev ?_; try with_reducible exact trivial)
      cases o2 with
      | none =>
        simp only [optT_n, evX, evY, evZ, forall_const, implies_true, initE, stepF, D.clean, mvF, moF, tkF, shF, ariF, ciF, catF, scF, ebF, eqF, eqOk, eqPr, enF, notF, ngF, cvF, csF, csbF, lenF, lenSF, ixF, iaF, PX.slot, iaAF, faF, ldF, D.mem, stF, bxF, mkSF, boundF, fldF, ixAF, mmF2, D.plain, D.isPure, optAll, D.dull, callVF, splice, D.cells, D.one, sets, resT, D.flat, D.flat0, D.simple, Nat.reduceBNe, Nat.reduceLT, reduceIte, Nat.reduceEqDiff, Nat.reduceAdd, Nat.reduceMul, Nat.reduceSub, Nat.reduceLeDiff, Int.reduceToNat, Int.reduceLT, Int.reduceLE, Int.reduceEq, Int.reduceNeg, Int.reduceSub, Int.reduceAdd, Int.reduceMul, stG_own]
        exact ⟨by omega, ⟨k + 1, by omega, by rw [er2]; rfl, by rw [er2]; rfl, rfl⟩, by omega⟩
      | some x =>
        have z4 : rd x ≤ 110 := s2 x rfl
        simp only [optT_s, rt_nil, evX, evY, evZ, forall_const, implies_true, initE, stepF, D.clean, mvF, moF, tkF, shF, ariF, ciF, catF, scF, ebF, eqF, eqOk, eqPr, enF, notF, ngF, cvF, csF, csbF, lenF, lenSF, ixF, iaF, PX.slot, iaAF, faF, ldF, D.mem, stF, bxF, mkSF, boundF, fldF, ixAF, mmF2, D.plain, D.isPure, optAll, D.dull, callVF, splice, D.cells, D.one, sets, resT, D.flat, D.flat0, D.simple, Nat.reduceBNe, Nat.reduceLT, reduceIte, Nat.reduceEqDiff, Nat.reduceAdd, Nat.reduceMul, Nat.reduceSub, Nat.reduceLeDiff, Int.reduceToNat, Int.reduceLT, Int.reduceLE, Int.reduceEq, Int.reduceNeg, Int.reduceSub, Int.reduceAdd, Int.reduceMul, stG_own]
        refine callF_of (Tryz.rcompare q x (by omega) (by omega)) ?_
        simp only [evX, evY, evZ, forall_const, implies_true, initE, stepF, D.clean, mvF, moF, tkF, shF, ariF, ciF, catF, scF, ebF, eqF, eqOk, eqPr, enF, notF, ngF, cvF, csF, csbF, lenF, lenSF, ixF, iaF, PX.slot, iaAF, faF, ldF, D.mem, stF, bxF, mkSF, boundF, fldF, ixAF, mmF2, D.plain, D.isPure, optAll, D.dull, callVF, splice, D.cells, D.one, sets, resT, D.flat, D.flat0, D.simple, Nat.reduceBNe, Nat.reduceLT, reduceIte, Nat.reduceEqDiff, Nat.reduceAdd, Nat.reduceMul, Nat.reduceSub, Nat.reduceLeDiff, Int.reduceToNat, Int.reduceLT, Int.reduceLE, Int.reduceEq, Int.reduceNeg, Int.reduceSub, Int.reduceAdd, Int.reduceMul, stG_own, cmp_lt]
        refine ⟨fun h5 => ?_, fun h5 => ?_⟩
        · exact ⟨by omega, ⟨k + 1, by omega, by rw [er2, if_pos (by simp [dnB, h5])], by rw [er2, if_pos (by simp [dnB, h5])]; rfl, rfl⟩, by omega⟩
        · have er3 : rch p (k + 1) = (o1, some x) := by rw [er2, if_neg (by simp [dnB, h5])]
          exact ⟨by omega, ⟨k + 1, by omega, by rw [er3], by rw [er3]; rfl, rfl⟩, by omega⟩
    · have er2 : rch p (k + 1) = (o1, o2) := by rw [er, rStep, if_pos g]
      rw [hs]
      refine ⟨fun h => absurd h (by decide), fun _ => ?_⟩
      (refine ev ?_; try with_reducible exact trivial)
      exact ⟨by omega, ⟨k + 1, by omega, by rw [er2], by rw [er2], rfl⟩, by omega⟩
    · have er2 : rch p (k + 1) = if upB o1 q = true then (some q, o2) else (o1, o2) := by rw [er, rStep, if_neg (by grind), if_pos g, hqq]
      rw [hs]
      refine ⟨fun _ => ?_, fun h => absurd rfl h⟩
      simp only [evX, evY, evZ, forall_const, implies_true, initE, stepF, D.clean, mvF, moF, tkF, shF, ariF, ciF, catF, scF, ebF, eqF, eqOk, eqPr, enF, notF, ngF, cvF, csF, csbF, lenF, lenSF, ixF, iaF, PX.slot, iaAF, faF, ldF, D.mem, stF, bxF, mkSF, boundF, fldF, ixAF, mmF2, D.plain, D.isPure, optAll, D.dull, callVF, splice, D.cells, D.one, sets, resT, D.flat, D.flat0, D.simple, Nat.reduceBNe, Nat.reduceLT, reduceIte, Nat.reduceEqDiff, Nat.reduceAdd, Nat.reduceMul, Nat.reduceSub, Nat.reduceLeDiff, Int.reduceToNat, Int.reduceLT, Int.reduceLE, Int.reduceEq, Int.reduceNeg, Int.reduceSub, Int.reduceAdd, Int.reduceMul, stG_own, ldC_nms, nms_len]
      refine ⟨⟨by omega, by omega, by omega⟩, hk2, ?_⟩
      refine callF_of (Tryz.lkover (p.ln 0 k) (p.gr k) (by omega) (by omega) (by grind)) ?_
      (refine ev ?_; try with_reducible exact trivial)
      refine callF_of (Tryz.rneg _ (by omega)) ?_
      rw [hq]
      (refine ev ?_; try with_reducible exact trivial)
      cases o1 with
      | none =>
        simp only [optT_n, evX, evY, evZ, forall_const, implies_true, initE, stepF, D.clean, mvF, moF, tkF, shF, ariF, ciF, catF, scF, ebF, eqF, eqOk, eqPr, enF, notF, ngF, cvF, csF, csbF, lenF, lenSF, ixF, iaF, PX.slot, iaAF, faF, ldF, D.mem, stF, bxF, mkSF, boundF, fldF, ixAF, mmF2, D.plain, D.isPure, optAll, D.dull, callVF, splice, D.cells, D.one, sets, resT, D.flat, D.flat0, D.simple, Nat.reduceBNe, Nat.reduceLT, reduceIte, Nat.reduceEqDiff, Nat.reduceAdd, Nat.reduceMul, Nat.reduceSub, Nat.reduceLeDiff, Int.reduceToNat, Int.reduceLT, Int.reduceLE, Int.reduceEq, Int.reduceNeg, Int.reduceSub, Int.reduceAdd, Int.reduceMul, stG_own]
        exact ⟨by omega, ⟨k + 1, by omega, by rw [er2]; rfl, by rw [er2]; rfl, rfl⟩, by omega⟩
      | some x =>
        have z4 : rd x ≤ 110 := s1 x rfl
        simp only [optT_s, rt_nil, evX, evY, evZ, forall_const, implies_true, initE, stepF, D.clean, mvF, moF, tkF, shF, ariF, ciF, catF, scF, ebF, eqF, eqOk, eqPr, enF, notF, ngF, cvF, csF, csbF, lenF, lenSF, ixF, iaF, PX.slot, iaAF, faF, ldF, D.mem, stF, bxF, mkSF, boundF, fldF, ixAF, mmF2, D.plain, D.isPure, optAll, D.dull, callVF, splice, D.cells, D.one, sets, resT, D.flat, D.flat0, D.simple, Nat.reduceBNe, Nat.reduceLT, reduceIte, Nat.reduceEqDiff, Nat.reduceAdd, Nat.reduceMul, Nat.reduceSub, Nat.reduceLeDiff, Int.reduceToNat, Int.reduceLT, Int.reduceLE, Int.reduceEq, Int.reduceNeg, Int.reduceSub, Int.reduceAdd, Int.reduceMul, stG_own]
        refine callF_of (Tryz.rcompare q x (by omega) (by omega)) ?_
        simp only [evX, evY, evZ, forall_const, implies_true, initE, stepF, D.clean, mvF, moF, tkF, shF, ariF, ciF, catF, scF, ebF, eqF, eqOk, eqPr, enF, notF, ngF, cvF, csF, csbF, lenF, lenSF, ixF, iaF, PX.slot, iaAF, faF, ldF, D.mem, stF, bxF, mkSF, boundF, fldF, ixAF, mmF2, D.plain, D.isPure, optAll, D.dull, callVF, splice, D.cells, D.one, sets, resT, D.flat, D.flat0, D.simple, Nat.reduceBNe, Nat.reduceLT, reduceIte, Nat.reduceEqDiff, Nat.reduceAdd, Nat.reduceMul, Nat.reduceSub, Nat.reduceLeDiff, Int.reduceToNat, Int.reduceLT, Int.reduceLE, Int.reduceEq, Int.reduceNeg, Int.reduceSub, Int.reduceAdd, Int.reduceMul, stG_own, cmp_gt]
        refine ⟨fun h5 => ?_, fun h5 => ?_⟩
        · exact ⟨by omega, ⟨k + 1, by omega, by rw [er2, if_pos (by simp [upB, h5])]; rfl, by rw [er2, if_pos (by simp [upB, h5])], rfl⟩, by omega⟩
        · have er3 : rch p (k + 1) = (some x, o2) := by rw [er2, if_neg (by simp [upB, h5])]
          exact ⟨by omega, ⟨k + 1, by omega, by rw [er3]; rfl, by rw [er3], rfl⟩, by omega⟩
  · obtain rfl : k = p.n := by omega
    rfl
end Go.Proofs

/-
  KINK: the law's unfolding. Own work.
-/
namespace Go.Proofs
open Go Go.Pi Go.RowKit Go.Ar Go.Ge Go.Kk

def munfD (o : Option Pt) : D := match o with
  | some q => .tup [ptD q, .bool true]
  | none => .tup [.agg [.str [], .str []], .bool false]

end Go.Proofs

/-
  KINK: planned profiles and their sizes. Own work.
-/
namespace Go.Proofs
open Go Go.Pi Go.RowKit Go.Ar Go.Ge Go.Kk

/-- a plan: where the profile begins, a dip and a length for each domain -/
structure PlK where
  x : Int
  y : Int
  d : List (Int × Int)
def i8K (z : Int) : Prop := -128 ≤ z ∧ z ≤ 127
structure PlK.ok (p : PlK) : Prop where
  x : i8K p.x
  y : i8K p.y
  d : ∀ q ∈ p.d, i8K q.1 ∧ i8K q.2
  n : p.d.length ≤ 4
def PlK.D (p : PlK) : List D := [.int .i8 p.x, .int .i8 p.y, .sl p.d.length (p.d.flatMap fun q => [.int .i8 q.1, .int .i8 q.2])]
def PlK.dip (p : PlK) (k : Nat) : Rat := ((((p.d.getD k (0, 0)).1.tmod 6 : Int) : Rat)) / 6
def PlK.len (p : PlK) (k : Nat) : Rat := ((1 + ((p.d.getD k (0, 0)).2.natAbs : Int).tmod 6 : Int) : Rat)
/-- the profile of a plan -/
def PlK.pf (p : PlK) : Pf := ⟨if p.d = [] then 1 else p.d.length, ((p.x.tmod 10 : Int), (p.y.tmod 10 : Int)), p.dip, p.len⟩

theorem tm6 (z : Int) : -5 ≤ z.tmod 6 ∧ z.tmod 6 ≤ 5 := by
  have h1 := Int.tmod_lt_of_pos z (b := 6) (by decide)
  have h2 := Int.lt_tmod_of_pos z (b := 6) (by decide)
  omega
theorem tm10 (z : Int) : -9 ≤ z.tmod 10 ∧ z.tmod 10 ≤ 9 := by
  have h1 := Int.tmod_lt_of_pos z (b := 10) (by decide)
  have h2 := Int.lt_tmod_of_pos z (b := 10) (by decide)
  omega
/-- a half-tangent of a plan -/
def T6 (t : Rat) : Prop := ∃ k : Int, -5 ≤ k ∧ k ≤ 5 ∧ t = (k : Rat) / 6
theorem T6.cases {q : Rat → Prop} (h : ∀ k ∈ ([-5, -4, -3, -2, -1, 0, 1, 2, 3, 4, 5] : List Int), q ((k : Rat) / 6)) {t : Rat} (ht : T6 t) : q t := by
  obtain ⟨k, h1, h2, rfl⟩ := ht
  apply h
  simp only [List.mem_cons, List.not_mem_nil, or_false]
  omega
theorem PlK.t6 (p : PlK) (k : Nat) : T6 (p.dip k) := ⟨_, (tm6 _).1, (tm6 _).2, rfl⟩
theorem T6.sz {t : Rat} (h : T6 t) : rd t ≤ 1 := h.cases (q := fun t => Go.Ar.rd t ≤ 1) (by decide +kernel)
theorem T6.dir {t : Rat} (h : T6 t) : Sz 2 (dirK t) := by
  have h1 := h.cases (q := fun t => Go.Ar.rd (dirK t).1 ≤ 2) (by decide +kernel)
  have h2 := h.cases (q := fun t => Go.Ar.rd (dirK t).2 ≤ 2) (by decide +kernel)
  exact ⟨h1, h2⟩
theorem T6.in1 {t : Rat} (h : T6 t) : -1 < t ∧ t < 1 := by
  have h1 := h.cases (q := fun t => -1 < t) (by decide +kernel)
  have h2 := h.cases (q := fun t => t < 1) (by decide +kernel)
  exact ⟨h1, h2⟩
theorem T6.tan {t u : Rat} (h : T6 t) (k : T6 u) : rd (tanH t u) ≤ 2 :=
  h.cases (q := fun t => Go.Ar.rd (tanH t u) ≤ 2) (fun a ha => k.cases (q := fun u => Go.Ar.rd (tanH ((a : Rat) / 6) u) ≤ 2) (fun b hb =>
    (by decide +kernel : ∀ a ∈ ([-5, -4, -3, -2, -1, 0, 1, 2, 3, 4, 5] : List Int), ∀ b ∈ ([-5, -4, -3, -2, -1, 0, 1, 2, 3, 4, 5] : List Int), Go.Ar.rd (tanH ((a : Rat) / 6) ((b : Rat) / 6)) ≤ 2) a ha b hb))
theorem PlK.n4 (p : PlK) (hp : p.ok) : 0 < p.pf.n ∧ p.pf.n ≤ 4 := by
  have := hp.n
  unfold PlK.pf
  simp only
  split
  · omega
  · rename_i h
    have : p.d.length ≠ 0 := fun z => h (List.eq_nil_of_length_eq_zero z)
    omega
theorem rd_small {z : Int} (h1 : -9 ≤ z) (h2 : z ≤ 9) : rd (z : Rat) ≤ 1 := by
  have h : ∀ z ∈ ([-9, -8, -7, -6, -5, -4, -3, -2, -1, 0, 1, 2, 3, 4, 5, 6, 7, 8, 9] : List Int), rd (z : Rat) ≤ 1 := by decide +kernel
  apply h
  simp only [List.mem_cons, List.not_mem_nil, or_false]
  omega
theorem PlK.len16 (p : PlK) (k : Nat) : ∃ z : Int, 1 ≤ z ∧ z ≤ 6 ∧ p.len k = (z : Rat) := by
  have h := tm6 ((p.d.getD k (0, 0)).2.natAbs : Int)
  have h0 := Int.tmod_nonneg 6 (a := ((p.d.getD k (0, 0)).2.natAbs : Int)) (by omega)
  exact ⟨_, by omega, by omega, rfl⟩
theorem PlK.rlen (p : PlK) (k : Nat) : rd (p.len k) ≤ 1 := by
  obtain ⟨z, h1, h2, e⟩ := p.len16 k
  rw [e]; exact rd_small (by omega) (by omega)
theorem PlK.at4 (p : PlK) : ∀ k, Sz (1 + 4 * k) (p.pf.at' k)
  | 0 => ⟨rd_small (tm10 _).1 (tm10 _).2, rd_small (tm10 _).1 (tm10 _).2⟩
  | k + 1 => by
    have h := (p.at4 k).pl (p.t6 k).dir (p.rlen k)
    exact h.mono (by omega)
theorem PlK.nrm (p : PlK) (k : Nat) : Sz 2 (Go.Kk.nrm (p.dip k)) := Sz.up (p.t6 k).dir
theorem Sz.avg {n m : Pt} (hn : Sz 2 n) (hm : Sz 2 m) : Sz 20 (Go.Kk.avg n m) := by
  have h1 := hn.pl hm (Nat.le_of_eq rd_one1)
  have h2 := rd_dt hn hm
  have h3 := rd_add 1 (dt n m)
  have h4 := rd_div 1 (1 + dt n m)
  rw [rd_one1] at h3 h4
  have h0 : Sz 1 ((0, 0) : Pt) := ⟨Nat.le_of_eq rd_zero0, Nat.le_of_eq rd_zero0⟩
  exact (h0.pl h1 (c := 12) (by omega)).mono (by omega)
theorem PlK.ax20 (p : PlK) (k : Nat) : Sz 20 (p.pf.ax k) := by
  unfold Pf.ax
  split
  · exact (p.nrm 0).mono (by omega)
  · split
    · exact (p.nrm _).mono (by omega)
    · exact Sz.avg (p.nrm _) (p.nrm _)
theorem PlK.psz (p : PlK) (hp : p.ok) : PSz p.pf where
  n0 := (p.n4 hp).1
  n := (p.n4 hp).2
  t := fun k _ => Nat.le_trans (p.t6 k).sz (by omega)
  l := fun k _ => Nat.le_trans (p.rlen k) (by omega)
  at' := fun k hk => (p.at4 k).mono (by have := (p.n4 hp).2; omega)
  ax := fun k _ => (p.ax20 k).mono (by omega)
  gr := fun k _ => by
    have h := rd_dt (p.t6 k).dir ((p.ax20 (k + 1)).mn (p.ax20 k))
    exact Nat.le_trans h (by omega)
  ok := fun k _ => by
    obtain ⟨z, h1, h2, e⟩ := p.len16 k
    refine ⟨(p.t6 k).in1.1, (p.t6 k).in1.2, ?_⟩
    show 0 < p.len k
    rw [e]
    have : (0 : Int) < z := by omega
    exact_mod_cast this
/-- a length changes by a number of at most 5 digits -/
theorem PlK.gr5 (p : PlK) (hp : p.ok) {k : Nat} (hk : k < p.pf.n) : rd (p.pf.gr k) ≤ 5 := by
  rw [gr_eq p.pf (fun j _ => (p.t6 j).in1) hk]
  have z : rd (0 : Rat) ≤ 2 := by rw [rd_zero0]; omega
  have h1 : rd (if k + 1 = p.pf.n then 0 else tanH (p.pf.t k) (p.pf.t (k + 1))) ≤ 2 := by
    split
    · exact z
    · exact (p.t6 k).tan (p.t6 (k + 1))
  have h2 : rd (if k = 0 then 0 else tanH (p.pf.t k) (p.pf.t (k - 1))) ≤ 2 := by
    split
    · exact z
    · exact (p.t6 k).tan (p.t6 (k - 1))
  have h3 := rd_sub (if k + 1 = p.pf.n then 0 else tanH (p.pf.t k) (p.pf.t (k + 1))) (if k = 0 then 0 else tanH (p.pf.t k) (p.pf.t (k - 1)))
  omega
end Go.Proofs

/-
  KINK: the law Axes (given Make and of). Own work.
-/
namespace Go.Proofs
open Go Go.Pi Go.RowKit Go.Ar Go.Ge Go.Kk

/-- what Make and of are to do -/
def Tryz.MakeOk : Prop := ∀ p : PlK, p.ok → Con Tryz.prog Tryz.L 17 [.agg p.D] (.agg (pfD p.pf))
def Tryz.OfOk : Prop := ∀ p : Pf, PSz p → Con Tryz.prog Tryz.L 18 [.agg (pfD p)] (.agg (moD p))
/-- numbers of a plan that the type allows -/
structure PlK.fit (p : PlK) : Prop where
  x : i8K p.x
  y : i8K p.y
  d : ∀ q ∈ p.d, i8K q.1 ∧ i8K q.2
  n : p.d.length ≤ 1048576
theorem PlK.fit.ok {p : PlK} (h : p.fit) (hn : p.d.length ≤ 4) : p.ok := ⟨h.x, h.y, h.d, hn⟩

set_option maxRecDepth 100000 in
set_option maxHeartbeats 8000000 in
theorem Tryz.lAxes (hM : Tryz.MakeOk) (hO : Tryz.OfOk) (p : PlK) (hp : p.fit) : Con Tryz.prog Tryz.L 4 [.agg p.D] (.bool true) := by
  have ck := Tryz.kknown
  refine rule4 Tryz.hL rfl rfl rfl ?_
  simp only [PlK.D, pc4, rs4, oU, oC, evX, evY, evZ, forall_const, implies_true, initE, stepF, D.clean, mvF, moF, tkF, shF, ariF, ciF, catF, scF, ebF, eqF, eqOk, eqPr, enF, notF, ngF, cvF, csF, csbF, lenF, lenSF, ixF, iaF, PX.slot, iaAF, faF, ldF, D.mem, stF, bxF, mkSF, boundF, fldF, ixAF, mmF2, D.plain, D.isPure, optAll, D.dull, callVF, splice, D.cells, D.one, sets, resT, D.flat, D.flat0, D.simple, Nat.reduceBNe, Nat.reduceLT, reduceIte, Nat.reduceEqDiff, Nat.reduceAdd, Nat.reduceMul, Nat.reduceSub, Nat.reduceLeDiff, Int.reduceToNat, Int.reduceLT, Int.reduceLE, Int.reduceEq, Int.reduceNeg, Int.reduceSub, Int.reduceAdd, Int.reduceMul, stG_own]
  refine callF_of ck ?_
  (refine ev ?_; try with_reducible exact trivial)
  refine ⟨fun h => ?_, fun h => ?_⟩
  · refine callF_of ck ?_
    (refine ev ?_; try with_reducible exact trivial)
  · have hok := hp.ok (by omega)
    have hs := p.psz hok
    have c1 := hM p hok
    have c2 := hO p.pf hs
    have c3 := Tryz.kAxes p.pf hs
    have c4 := Tryz.kReach p.pf hs
    have c5 := Tryz.mreach p.pf hs
    have hn4 := hs.n
    have hn0 := hs.n0
    generalize p.pf = f at *
    simp only [PlK.D] at c1
    simp only [pfD, moD] at c1 c2 c3 c4 c5
    refine callF_of c1 ?_
    (refine ev ?_; try with_reducible exact trivial)
    refine callF_of c2 ?_
    (refine ev ?_; try with_reducible exact trivial)
    refine callF_of c3 ?_
    (refine ev ?_; try with_reducible exact trivial)
    refine callF_of c4 ?_
    (refine ev ?_; try with_reducible exact trivial)
    refine callF_of c5 ?_
    (refine ev ?_; try with_reducible exact trivial)
    refine ⟨⟨by omega, by omega⟩, fun _ => ?_, fun h => h (by omega)⟩
    have hl2 := axI_len f
    refine loopF_of (fun E => ∃ k : Nat, k ≤ f.n - 1 ∧ E = [(4, .box true [.sl (f.n + 1) (pts (lst (f.n + 1) f.at')), .sl (f.n + 1) (pts (lst (f.n + 1) f.ax))]), (5, .sl (f.n - 1) (axI f)), (12, .int .i64 k)])
      (fun E => match lk E 12 with | .int _ i => f.n - 1 - i.toNat | _ => 0) ⟨0, Nat.zero_le _, rfl⟩ ?_
    rintro _ ⟨k, hk, rfl⟩
    have e9 : ((k : Int) + 1).toNat = k + 1 := by omega
    simp only [evX, evY, evZ, forall_const, implies_true, initE, stepF, D.clean, mvF, moF, tkF, shF, ariF, ciF, catF, scF, ebF, eqF, eqOk, eqPr, enF, notF, ngF, cvF, csF, csbF, lenF, lenSF, ixF, iaF, PX.slot, iaAF, faF, ldF, D.mem, stF, bxF, mkSF, boundF, fldF, ixAF, mmF2, D.plain, D.isPure, optAll, D.dull, callVF, splice, D.cells, D.one, sets, resT, D.flat, D.flat0, D.simple, Nat.reduceBNe, Nat.reduceLT, reduceIte, Nat.reduceEqDiff, Nat.reduceAdd, Nat.reduceMul, Nat.reduceSub, Nat.reduceLeDiff, Int.reduceToNat, Int.reduceLT, Int.reduceLE, Int.reduceEq, Int.reduceNeg, Int.reduceSub, Int.reduceAdd, Int.reduceMul, stG_own, ldC_axI, axD, ldC_ptsT, ptsL_len, hl2, pD, e9]
    intro h3
    refine ⟨⟨by omega, by omega, by omega⟩, by omega, ⟨by omega, by omega⟩, ⟨by omega, by omega, by omega⟩, by omega, ⟨by omega, by omega⟩, ⟨by omega, by omega, by omega⟩, by omega, ?_⟩
    exact ⟨by omega, ⟨k + 1, by omega, rfl⟩, by omega⟩
end Go.Proofs

/-
  KINK: heights that are no right numbers; the law Heights (given Make and of). Own work.
-/
namespace Go.Proofs
open Go Go.Pi Go.RowKit Go.Ar Go.Ge Go.Kk

theorem dd1K : dd 1 = [49] := by decide +kernel
theorem bad_1K (a : List UInt8) (ha : ∀ x ∈ a, x ≠ 47) : ¬okR (a ++ 47 :: [49]) := fun h => by
  obtain ⟨n, d, _, h2, _, _, h3, _⟩ := (okR_frac ha).1 h
  have e2 : d = 1 := dd_inj (h2.symm.trans dd1K.symm)
  omega
theorem bad11K : ¬okR [49, 47, 49] := bad_1K [49] (by decide)
theorem badNilK : ¬okR [] := fun ⟨_, h, _⟩ => rt_ne h.symm
theorem badXK : ¬okR [120] := fun h => by
  have h2 := ((okZ_iff _).1 ((okR_int (by decide)).1 h)).1.1
  have := h2 120 (by decide)
  revert this
  decide
section bad
variable (p : Pf) (hp : PSz p) (s : List UInt8) (hs : s.length ≤ 1000) (hb : ¬ okR s)
include hp hs hb
theorem Tryz.wHeight : Con Tryz.prog Tryz.L 80 [.agg (pfD p), .sl 1 [.str s]] (.int .i64 2) := by
  have c := Tryz.kcheck p hp
  refine rule80 Tryz.hL rfl rfl rfl ?_
  simp only [pfD] at c
  simp only [pfD, pc80, rs80, oU, oC, evX, evY, evZ, forall_const, implies_true, initE, stepF, D.clean, mvF, moF, tkF, shF, ariF, ciF, catF, scF, ebF, eqF, eqOk, eqPr, enF, notF, ngF, cvF, csF, csbF, lenF, lenSF, ixF, iaF, PX.slot, iaAF, faF, ldF, D.mem, stF, bxF, mkSF, boundF, fldF, ixAF, mmF2, D.plain, D.isPure, optAll, D.dull, callVF, splice, D.cells, D.one, sets, resT, D.flat, D.flat0, D.simple, Nat.reduceBNe, Nat.reduceLT, reduceIte, Nat.reduceEqDiff, Nat.reduceAdd, Nat.reduceMul, Nat.reduceSub, Nat.reduceLeDiff, Int.reduceToNat, Int.reduceLT, Int.reduceLE, Int.reduceEq, Int.reduceNeg, Int.reduceSub, Int.reduceAdd, Int.reduceMul, stG_own]
  refine callF_of c ?_
  (refine ev ?_; try with_reducible exact trivial)
  refine loopF_of (fun E => E = [(1, .sl 1 [.str s]), (2, .box true [.str (rt p.s.1), .str (rt p.s.2), .sl p.n (nms p.n p.t), .sl p.n (nms p.n p.l)]), (15, .sl 1 [.str s]), (16, .int .i64 1), (17, .int .i64 0)])
    (fun E => 0) rfl ?_
  rintro _ rfl
  (refine ev ?_; try with_reducible exact trivial)
  refine ⟨by decide, ?_⟩
  have ch := Tryz.rcheck s (by omega)
  rw [chk_f hb] at ch
  refine callF_of ch ?_
  (refine ev ?_; try with_reducible exact trivial)
theorem Tryz.wBed : Con Tryz.prog Tryz.L 37 [.agg (pfD p), .str s] (.tup [.sl 0 [], .int .i64 2]) := by
  have c := Tryz.wHeight p hp s hs hb
  simp only [pfD] at c ⊢
  refine rule37 Tryz.hL rfl rfl rfl ?_
  (simp only [pc37, rs37, oU, oC]; refine ev ?_; try with_reducible exact trivial)
  refine callF_of c ?_
  (refine ev ?_; try with_reducible exact trivial)
  rfl
theorem Tryz.wAlong : Con Tryz.prog Tryz.L 38 [.agg (pfD p), .str s] (.tup [.sl 0 [], .int .i64 2]) := by
  have c := Tryz.wHeight p hp s hs hb
  simp only [pfD] at c ⊢
  refine rule38 Tryz.hL rfl rfl rfl ?_
  (simp only [pc38, rs38, oU, oC]; refine ev ?_; try with_reducible exact trivial)
  refine callF_of c ?_
  (refine ev ?_; try with_reducible exact trivial)
  rfl
theorem Tryz.wLength : Con Tryz.prog Tryz.L 39 [.agg (pfD p), .str s] (.tup [.str [], .int .i64 2]) := by
  have c := Tryz.wHeight p hp s hs hb
  simp only [pfD] at c ⊢
  refine rule39 Tryz.hL rfl rfl rfl ?_
  (simp only [pc39, rs39, oU, oC]; refine ev ?_; try with_reducible exact trivial)
  refine callF_of c ?_
  (refine ev ?_; try with_reducible exact trivial)
  rfl
end bad
/-- a number of quarters -/
def quar (z : Int) : Rat := mkRat z 4
theorem quar_rd {z : Int} (h : i8K z) : rd (quar z) ≤ 3 := by
  have := (by decide +kernel : ∀ n : Fin 256, rd (mkRat ((n.val : Int) - 128) 4) ≤ 3) ⟨(z + 128).toNat, by unfold i8K at h; omega⟩
  simp only at this
  rw [show (((z + 128).toNat : Nat) : Int) - 128 = z by unfold i8K at h; omega] at this
  exact this
theorem PlK.ln_rd (p : PlK) (hp : p.ok) {h : Rat} {m : Nat} (hh : rd h ≤ m) {k : Nat} (hk : k < p.pf.n) : rd (p.pf.ln h k) ≤ 7 + m := by
  have h1 := p.gr5 hp hk
  have h2 : rd (p.pf.l k) ≤ 1 := p.rlen k
  have h3 := rd_mul (p.pf.gr k) h
  have h4 := rd_add (p.pf.l k) (p.pf.gr k * h)
  unfold Pf.ln; omega
theorem PlK.bd_sz (p : PlK) (hp : p.ok) {h : Rat} {m : Nat} (hh : rd h ≤ m) {k : Nat} (hk : k ≤ p.pf.n) : Sz (38 + m) (p.pf.bd h k) := by
  have := (p.n4 hp).2
  exact (((p.at4 k).mono (m := 17) (by omega)).pl (p.ax20 k) hh).mono (by omega)

set_option maxRecDepth 100000 in
set_option maxHeartbeats 8000000 in
theorem Tryz.lHeights (hM : Tryz.MakeOk) (hO : Tryz.OfOk) (p : PlK) (hp : p.fit) (z : Int) (hz : i8K z) : Con Tryz.prog Tryz.L 9 [.agg p.D, .int .i8 z] (.bool true) := by
  have ck := Tryz.kknown
  refine rule9 Tryz.hL rfl rfl rfl ?_
  simp only [PlK.D, pc9, rs9, oU, oC, evX, evY, evZ, forall_const, implies_true, initE, stepF, D.clean, mvF, moF, tkF, shF, ariF, ciF, catF, scF, ebF, eqF, eqOk, eqPr, enF, notF, ngF, cvF, csF, csbF, lenF, lenSF, ixF, iaF, PX.slot, iaAF, faF, ldF, D.mem, stF, bxF, mkSF, boundF, fldF, ixAF, mmF2, D.plain, D.isPure, optAll, D.dull, callVF, splice, D.cells, D.one, sets, resT, D.flat, D.flat0, D.simple, Nat.reduceBNe, Nat.reduceLT, reduceIte, Nat.reduceEqDiff, Nat.reduceAdd, Nat.reduceMul, Nat.reduceSub, Nat.reduceLeDiff, Int.reduceToNat, Int.reduceLT, Int.reduceLE, Int.reduceEq, Int.reduceNeg, Int.reduceSub, Int.reduceAdd, Int.reduceMul, stG_own]
  refine callF_of ck ?_
  (refine ev ?_; try with_reducible exact trivial)
  refine ⟨fun h => ?_, fun h => ?_⟩
  · refine callF_of ck ?_
    (refine ev ?_; try with_reducible exact trivial)
  · have hok := hp.ok (by omega)
    have hs := p.psz hok
    have hq := quar_rd hz
    have c1 := hM p hok
    have c2 := hO p.pf hs
    have c3 := Tryz.rof z 4 (by decide) (by unfold i8K at hz; rw [inR_i64]; omega) (by rw [inR_i64]; omega)
    have hl := fun k (hk : k < p.pf.n) => p.ln_rd hok hq hk
    have hb := fun k (hk : k ≤ p.pf.n) => p.bd_sz hok hq hk
    have e1 := rd_sumN (f := p.pf.ln (quar z)) (m := 10) (n := p.pf.n) (fun k hk => hl k hk)
    have hn4 := hs.n
    have e3 : p.pf.n * (10 + 1) ≤ 4 * 11 := Nat.mul_le_mul hn4 (by omega)
    have c4 := Tryz.kBed p.pf hs (quar z) (by omega) (fun k hk => (hb k hk).mono (by omega))
    have c5 := Tryz.kAlong p.pf hs (quar z) (by omega) (fun k hk => by have := hl k hk; omega)
    have c6 := Tryz.kLength p.pf hs (quar z) (by omega) (by omega)
    have c7 := Tryz.wBed p.pf hs _ (by decide) bad11K
    have c8 := Tryz.wAlong p.pf hs _ (by decide) badNilK
    have c9 := Tryz.wLength p.pf hs _ (by decide) badXK
    have d1 := Tryz.mlen p.pf hs (quar z) (by omega)
    have d2 := Tryz.mbed p.pf hs (quar z) (by omega)
    have d3 := Tryz.msum p.pf.n (p.pf.ln (quar z)) (by omega) (fun k hk => by have := hl k hk; omega)
    have d4 := Tryz.msameP (p.pf.n + 1) (p.pf.bd (quar z)) (by omega)
    have d5 := Tryz.msameN p.pf.n (p.pf.ln (quar z)) (by omega)
    change Con _ _ _ _ (.tup [.str (rt (quar z)), .int .i64 0]) at c3
    have hn0 := hs.n0
    generalize quar z = q at *
    generalize p.pf = f at *
    simp only [PlK.D] at c1
    simp only [pfD, moD] at c1 c2 c4 c5 c6 c7 c8 c9 d1 d2
    refine callF_of c1 ?_
    (refine ev ?_; try with_reducible exact trivial)
    refine callF_of c2 ?_
    (refine ev ?_; try with_reducible exact trivial)
    refine ⟨by unfold i8K at hz; omega, ?_⟩
    refine callF_of c3 ?_
    (refine ev ?_; try with_reducible exact trivial)
    cases hw : f.win q with
    | false =>
      rw [hw] at c4 c5 c6 d1
      simp only [Bool.false_eq_true, if_false] at c4 c5 c6
      refine callF_of c4 ?_
      (refine ev ?_; try with_reducible exact trivial)
      refine callF_of c5 ?_
      (refine ev ?_; try with_reducible exact trivial)
      refine callF_of c6 ?_
      (refine ev ?_; try with_reducible exact trivial)
      refine callF_of c7 ?_
      (refine ev ?_; try with_reducible exact trivial)
      refine callF_of c8 ?_
      (refine ev ?_; try with_reducible exact trivial)
      refine callF_of c9 ?_
      (refine ev ?_; try with_reducible exact trivial)
      refine ⟨by omega, fun _ => ?_, fun h => absurd h (by omega)⟩
      refine callF_of d1 ?_
      (refine ev ?_; try with_reducible exact trivial)
      exact ⟨by omega, fun h => h (by omega)⟩
    | true =>
      rw [hw] at c4 c5 c6 d1
      simp only [if_true] at c4 c5 c6
      refine callF_of c4 ?_
      (refine ev ?_; try with_reducible exact trivial)
      refine callF_of c5 ?_
      (refine ev ?_; try with_reducible exact trivial)
      refine callF_of c6 ?_
      (refine ev ?_; try with_reducible exact trivial)
      refine callF_of c7 ?_
      (refine ev ?_; try with_reducible exact trivial)
      refine callF_of c8 ?_
      (refine ev ?_; try with_reducible exact trivial)
      refine callF_of c9 ?_
      (refine ev ?_; try with_reducible exact trivial)
      refine ⟨by omega, fun _ => ?_, fun h => absurd h (by omega)⟩
      refine callF_of d1 ?_
      (refine ev ?_; try with_reducible exact trivial)
      refine callF_of d2 ?_
      (refine ev ?_; try with_reducible exact trivial)
      refine callF_of d4 ?_
      (refine ev ?_; try with_reducible exact trivial)
      refine callF_of d5 ?_
      (refine ev ?_; try with_reducible exact trivial)
      refine callF_of d3 ?_
      (refine ev ?_; try with_reducible exact trivial)
end Go.Proofs

/-
  KINK: the law Areas (given Make and of). Own work.
-/
namespace Go.Proofs
open Go Go.Pi Go.RowKit Go.Ar Go.Ge Go.Kk

theorem quar_lt {x y : Int} : quar x < quar y ↔ x < y := by
  have e : ∀ z : Int, quar z = (z : Rat) / 4 := fun z => by unfold quar; rw [Rat.mkRat_eq_div]; rfl
  rw [e, e]
  constructor
  · intro h
    have : (x : Rat) < (y : Rat) := by grind
    exact_mod_cast this
  · intro h
    have : (x : Rat) < (y : Rat) := by exact_mod_cast h
    grind
set_option maxRecDepth 100000 in
set_option maxHeartbeats 16000000 in
theorem Tryz.lAreas (hM : Tryz.MakeOk) (hO : Tryz.OfOk) (p : PlK) (hp : p.fit) (x y : Int) (hx : i8K x) (hy : i8K y) (d : Int) (hd : inR .i64 d) : Con Tryz.prog Tryz.L 6 [.agg p.D, .agg [.int .i8 x, .int .i8 y], .int .i64 d] (.bool true) := by
  have ck := Tryz.kknown
  refine rule6 Tryz.hL rfl rfl rfl ?_
  simp only [PlK.D, pc6, rs6, oU, oC, evX, evY, evZ, forall_const, implies_true, initE, stepF, D.clean, mvF, moF, tkF, shF, ariF, ciF, catF, scF, ebF, eqF, eqOk, eqPr, enF, notF, ngF, cvF, csF, csbF, lenF, lenSF, ixF, iaF, PX.slot, iaAF, faF, ldF, D.mem, stF, bxF, mkSF, boundF, fldF, ixAF, mmF2, D.plain, D.isPure, optAll, D.dull, callVF, splice, D.cells, D.one, sets, resT, D.flat, D.flat0, D.simple, Nat.reduceBNe, Nat.reduceLT, reduceIte, Nat.reduceEqDiff, Nat.reduceAdd, Nat.reduceMul, Nat.reduceSub, Nat.reduceLeDiff, Int.reduceToNat, Int.reduceLT, Int.reduceLE, Int.reduceEq, Int.reduceNeg, Int.reduceSub, Int.reduceAdd, Int.reduceMul, stG_own]
  refine callF_of ck ?_
  (refine ev ?_; try with_reducible exact trivial)
  refine ⟨fun h => ?_, fun h => ?_⟩
  · refine callF_of ck ?_
    (refine ev ?_; try with_reducible exact trivial)
  · have hok := hp.ok (by omega)
    have hs := p.psz hok
    have hqx := quar_rd hx
    have hqy := quar_rd hy
    have c1 := hM p hok
    have c2 := hO p.pf hs
    have c3 := Tryz.rof x 4 (by decide) (by unfold i8K at hx; rw [inR_i64]; omega) (by rw [inR_i64]; omega)
    have c3' := Tryz.rof y 4 (by decide) (by unfold i8K at hy; rw [inR_i64]; omega) (by rw [inR_i64]; omega)
    have hlx := fun k (hk : k < p.pf.n) => p.ln_rd hok hqx hk
    have hly := fun k (hk : k < p.pf.n) => p.ln_rd hok hqy hk
    have hbx := fun k (hk : k ≤ p.pf.n) => p.bd_sz hok hqx hk
    have hby := fun k (hk : k ≤ p.pf.n) => p.bd_sz hok hqy hk
    have e1 := rd_sumN (f := p.pf.ln (quar x)) (m := 10) (n := p.pf.n) (fun k hk => hlx k hk)
    have e2 := rd_sumN (f := p.pf.ln (quar y)) (m := 10) (n := p.pf.n) (fun k hk => hly k hk)
    have hn4 := hs.n
    have e3 : p.pf.n * (10 + 1) ≤ 4 * 11 := Nat.mul_le_mul hn4 (by omega)
    have e4 := rd_add (sumN (p.pf.ln (quar x)) p.pf.n) (sumN (p.pf.ln (quar y)) p.pf.n)
    have e5 := rd_mul (sumN (p.pf.ln (quar x)) p.pf.n + sumN (p.pf.ln (quar y)) p.pf.n) (1 / 2)
    have e6 : rd (1 / 2 : Rat) ≤ 1 := by decide +kernel
    have e7 := rd_sub (quar y) (quar x)
    have e8 := rd_mul ((sumN (p.pf.ln (quar x)) p.pf.n + sumN (p.pf.ln (quar y)) p.pf.n) * (1 / 2)) (quar y - quar x)
    have e9 := rd_mul (1 / 2) (quar y - quar x)
    have c5 := Tryz.kArea p.pf hs (quar x) (quar y) (by omega) (by omega) (by omega)
    have c6 := Tryz.kQuad p.pf hs d hd (quar x) (quar y) (by omega) (by omega) (fun k hk => ⟨(hbx k hk).mono (by omega), (hby k hk).mono (by omega)⟩)
    have d1 := Tryz.mlen p.pf hs (quar x) (by omega)
    have d1' := Tryz.mlen p.pf hs (quar y) (by omega)
    have d2 := Tryz.mbed p.pf hs (quar x) (by omega)
    have d2' := Tryz.mbed p.pf hs (quar y) (by omega)
    have d3 := Tryz.msum p.pf.n (p.pf.ln (quar x)) (by omega) (fun k hk => by have := hlx k hk; omega)
    have d3' := Tryz.msum p.pf.n (p.pf.ln (quar y)) (by omega) (fun k hk => by have := hly k hk; omega)
    have d4 := Tryz.msameP 4 (qd p.pf (quar x) (quar y) d.toNat) (by omega)
    have m1 := Tryz.rsub (quar y) (quar x) (by omega) (by omega)
    have m2 := Tryz.rmul (1 / 2) (quar y - quar x) (by omega) (by omega)
    have m3 := Tryz.radd (sumN (p.pf.ln (quar x)) p.pf.n) (sumN (p.pf.ln (quar y)) p.pf.n) (by omega) (by omega)
    have m4 := Tryz.rmul (1 / 2 * (quar y - quar x)) (sumN (p.pf.ln (quar x)) p.pf.n + sumN (p.pf.ln (quar y)) p.pf.n) (by omega) (by omega)
    rw [show rt (1 / 2 : Rat) = [49, 47, 50] by decide +kernel] at m2
    rw [show 1 / 2 * (quar y - quar x) * (sumN (p.pf.ln (quar x)) p.pf.n + sumN (p.pf.ln (quar y)) p.pf.n) = (sumN (p.pf.ln (quar x)) p.pf.n + sumN (p.pf.ln (quar y)) p.pf.n) * (1 / 2) * (quar y - quar x) by grind] at m4
    have hlt := quar_lt (x := x) (y := y)
    change Con _ _ _ _ (.tup [.str (rt (quar x)), .int .i64 0]) at c3
    change Con _ _ _ _ (.tup [.str (rt (quar y)), .int .i64 0]) at c3'
    have hn0 := hs.n0
    clear hbx hby hlx hly e1 e2 e3 e4 e5 e6 e7 e8 e9 hqx hqy
    generalize quar x = a at *
    generalize quar y = b at *
    generalize p.pf = f at *
    simp only [PlK.D] at c1
    simp only [pfD, moD] at c1 c2 c5 c6 d1 d1' d2 d2'
    unfold i8K at hx hy
    refine callF_of c1 ?_
    (refine ev ?_; try with_reducible exact trivial)
    refine callF_of c2 ?_
    (refine ev ?_; try with_reducible exact trivial)
    refine ⟨by decide, by omega, ?_⟩
    refine callF_of c3 ?_
    (refine ev ?_; try with_reducible exact trivial)
    refine ⟨by decide, by omega, ?_⟩
    refine callF_of c3' ?_
    (refine ev ?_; try with_reducible exact trivial)
    cases hwa : f.win a with
    | false =>
      rw [hwa] at c5 c6 d1
      have c6' := c6
      simp only [Bool.false_and, Bool.false_eq_true, if_false, ite_self] at c5 c6'
      refine callF_of c5 ?_
      (refine ev ?_; try with_reducible exact trivial)
      refine callF_of c6' ?_
      (refine ev ?_; try with_reducible exact trivial)
      refine callF_of d1 ?_
      (refine ev ?_; try with_reducible exact trivial)
      refine callF_of d1' ?_
      (refine ev ?_; try with_reducible exact trivial)
      exact ⟨fun _ => ⟨fun _ h => h rfl, fun _ h => h rfl⟩, fun _ h => h rfl⟩
    | true =>
      rw [hwa] at c5 c6 d1
      cases hwb : f.win b with
      | false =>
        rw [hwb] at c5 c6 d1'
        have c6' := c6
        simp only [Bool.and_false, Bool.false_eq_true, if_false, ite_self] at c5 c6'
        refine callF_of c5 ?_
        (refine ev ?_; try with_reducible exact trivial)
        refine callF_of c6' ?_
        (refine ev ?_; try with_reducible exact trivial)
        refine callF_of d1 ?_
        (refine ev ?_; try with_reducible exact trivial)
        refine callF_of d1' ?_
        (refine ev ?_; try with_reducible exact trivial)
        exact ⟨fun _ => ⟨fun _ h => h rfl, fun _ h => h rfl⟩, fun _ h => h rfl⟩
      | true =>
        rw [hwb] at c5 c6 d1'
        simp only [Bool.and_true, if_true] at c5 c6
        by_cases ho : a < b
        · rw [if_pos ho] at c5 c6
          refine callF_of c5 ?_
          (refine ev ?_; try with_reducible exact trivial)
          by_cases hv : 0 ≤ d ∧ d < f.n
          · rw [if_pos hv] at c6
            refine callF_of c6 ?_
            (refine ev ?_; try with_reducible exact trivial)
            refine callF_of d1 ?_
            (refine ev ?_; try with_reducible exact trivial)
            refine callF_of d1' ?_
            (refine ev ?_; try with_reducible exact trivial)
            refine ⟨by decide, by decide, fun h => absurd h (by have := hlt.1 ho; omega), fun _ => ⟨fun h3 => ⟨fun h4 => absurd h4 (by omega), fun _ => ?_⟩, fun h => absurd h (by omega)⟩⟩
            refine callF_of m1 ?_
            (refine ev ?_; try with_reducible exact trivial)
            refine callF_of m2 ?_
            (refine ev ?_; try with_reducible exact trivial)
            refine callF_of d3 ?_
            (refine ev ?_; try with_reducible exact trivial)
            refine callF_of d3' ?_
            (refine ev ?_; try with_reducible exact trivial)
            refine callF_of m3 ?_
            (refine ev ?_; try with_reducible exact trivial)
            refine callF_of m4 ?_
            (refine ev ?_; try with_reducible exact trivial)
            refine callF_of d2 ?_
            (refine ev ?_; try with_reducible exact trivial)
            refine callF_of d2' ?_
            have e9 : (d + 1).toNat = d.toNat + 1 := by omega
            simp only [evX, evY, evZ, forall_const, implies_true, initE, stepF, D.clean, mvF, moF, tkF, shF, ariF, ciF, catF, scF, ebF, eqF, eqOk, eqPr, enF, notF, ngF, cvF, csF, csbF, lenF, lenSF, ixF, iaF, PX.slot, iaAF, faF, ldF, D.mem, stF, bxF, mkSF, boundF, fldF, ixAF, mmF2, D.plain, D.isPure, optAll, D.dull, callVF, splice, D.cells, D.one, sets, resT, D.flat, D.flat0, D.simple, Nat.reduceBNe, Nat.reduceLT, reduceIte, Nat.reduceEqDiff, Nat.reduceAdd, Nat.reduceMul, Nat.reduceSub, Nat.reduceLeDiff, Int.reduceToNat, Int.reduceLT, Int.reduceLE, Int.reduceEq, Int.reduceNeg, Int.reduceSub, Int.reduceAdd, Int.reduceMul, stG_own, ldC_ptsL, ptsL_len, pD, e9]
            refine ⟨⟨by omega, by omega, by omega⟩, by omega, ⟨by omega, by omega⟩, ⟨by omega, by omega, by omega⟩, by omega, ⟨by omega, by omega⟩, ⟨by omega, by omega, by omega⟩, by omega, ⟨by omega, by omega, by omega⟩, by omega, ?_⟩
            change Con _ _ _ [_, .sl 4 [.str (rt (f.bd a d.toNat).1), .str (rt (f.bd a d.toNat).2), .str (rt (f.bd a (d.toNat + 1)).1), .str (rt (f.bd a (d.toNat + 1)).2), .str (rt (f.bd b (d.toNat + 1)).1), .str (rt (f.bd b (d.toNat + 1)).2), .str (rt (f.bd b d.toNat).1), .str (rt (f.bd b d.toNat).2)]] _ at d4
            refine callF_of d4 ?_
            (refine ev ?_; try with_reducible exact trivial)
          · rw [if_neg hv] at c6
            refine callF_of c6 ?_
            (refine ev ?_; try with_reducible exact trivial)
            refine callF_of d1 ?_
            (refine ev ?_; try with_reducible exact trivial)
            refine callF_of d1' ?_
            (refine ev ?_; try with_reducible exact trivial)
            refine ⟨by decide, by decide, fun h => absurd h (by have := hlt.1 ho; omega), fun _ => ⟨fun h3 => ⟨fun h4 => ?_, fun h4 => absurd ⟨by omega, by omega⟩ hv⟩, fun h3 => ?_⟩⟩
            all_goals
              refine callF_of m1 ?_
              (refine ev ?_; try with_reducible exact trivial)
              refine callF_of m2 ?_
              (refine ev ?_; try with_reducible exact trivial)
              refine callF_of d3 ?_
              (refine ev ?_; try with_reducible exact trivial)
              refine callF_of d3' ?_
              (refine ev ?_; try with_reducible exact trivial)
              refine callF_of m3 ?_
              (refine ev ?_; try with_reducible exact trivial)
              refine callF_of m4 ?_
              (refine ev ?_; try with_reducible exact trivial)
            all_goals exact fun h => h rfl
        · rw [if_neg ho] at c5 c6
          refine callF_of c5 ?_
          (refine ev ?_; try with_reducible exact trivial)
          by_cases hv : 0 ≤ d ∧ d < f.n
          · rw [if_pos hv] at c6
            refine callF_of c6 ?_
            (refine ev ?_; try with_reducible exact trivial)
            refine callF_of d1 ?_
            (refine ev ?_; try with_reducible exact trivial)
            refine callF_of d1' ?_
            (refine ev ?_; try with_reducible exact trivial)
            have hxy : ¬ x < y := fun z => ho (hlt.2 z)
            exact ⟨by decide, by decide, fun _ => ⟨fun _ => ⟨fun h => absurd h (by omega), fun _ h => h rfl⟩, fun h => absurd h (by omega)⟩, fun h => absurd h (by omega)⟩
          · rw [if_neg hv] at c6
            refine callF_of c6 ?_
            (refine ev ?_; try with_reducible exact trivial)
            refine callF_of d1 ?_
            (refine ev ?_; try with_reducible exact trivial)
            refine callF_of d1' ?_
            (refine ev ?_; try with_reducible exact trivial)
            have hxy : ¬ x < y := fun z => ho (hlt.2 z)
            exact ⟨by decide, by decide, fun _ => ⟨fun _ => ⟨fun _ h => h rfl, fun _ => absurd ⟨by omega, by omega⟩ hv⟩, fun _ h => h rfl⟩, fun h => absurd h (by omega)⟩
end Go.Proofs

/-
  KINK: unfolding and folding again; sizes by common denominators. Own work.
-/
namespace Go.Kk
open Go.Ge Go.Ar

/-- with a common denominator -/
def CB (D k : Nat) (q : Rat) : Prop := ∃ u : Int, u.natAbs ≤ k ∧ q * (D : Rat) = (u : Rat)
theorem CB.mono {D k l : Nat} {q : Rat} (h : CB D k q) (h1 : k ≤ l) : CB D l q := by
  obtain ⟨u, h3, h4⟩ := h
  exact ⟨u, Nat.le_trans h3 h1, h4⟩
theorem CB.mul {D E k l : Nat} {p q : Rat} (h : CB D k p) (h' : CB E l q) : CB (D * E) (k * l) (p * q) := by
  obtain ⟨u, h1, h2⟩ := h
  obtain ⟨v, h3, h4⟩ := h'
  exact ⟨u * v, by rw [Int.natAbs_mul]; exact Nat.mul_le_mul h1 h3, by rw [Rat.natCast_mul, Rat.intCast_mul, ← h2, ← h4]; grind⟩
theorem CB.add {D k l : Nat} {p q : Rat} (h : CB D k p) (h' : CB D l q) : CB D (k + l) (p + q) := by
  obtain ⟨u, h1, h2⟩ := h
  obtain ⟨v, h3, h4⟩ := h'
  exact ⟨u + v, by omega, by rw [Rat.intCast_add, ← h2, ← h4]; grind⟩
theorem CB.neg {D k : Nat} {p : Rat} (h : CB D k p) : CB D k (-p) := by
  obtain ⟨u, h1, h2⟩ := h
  exact ⟨-u, by omega, by rw [Rat.intCast_neg, ← h2]; grind⟩
theorem CB.up {D k : Nat} {p : Rat} (h : CB D k p) (E : Nat) : CB (D * E) (k * E) p := by
  obtain ⟨u, h1, h2⟩ := h
  exact ⟨u * E, by rw [Int.natAbs_mul, Int.natAbs_natCast]; exact Nat.mul_le_mul_right _ h1, by rw [Rat.natCast_mul, Rat.intCast_mul, ← h2, Rat.intCast_natCast]; grind⟩
theorem CB.rd10 {D k : Nat} {q : Rat} (h : CB D k q) (h0 : 0 < D) (h1 : D < 10000000000) (h2 : k < 10000000000) : rd q ≤ 10 := by
  obtain ⟨u, h3, h4⟩ := h
  have hd : (D : Rat) ≠ 0 := fun e => by
    have : D = 0 := by exact_mod_cast e
    omega
  have e : q = mkRat u D := by rw [Rat.mkRat_eq_div, ← h4]; grind
  rw [e]
  exact rd_mk (by omega) (dd_len_le (by decide) (Nat.lt_of_le_of_lt h3 h2)) (dd_len_le (by decide) h1)
theorem CB.int {z : Int} {k : Nat} (h : z.natAbs ≤ k) : CB 1 k (z : Rat) := ⟨z, h, by grind⟩

/-- any vector by a direction and its normal -/
theorem split_dn (t : Rat) (v : Pt) : v = pl (pl (0, 0) (dirK t) (dt (dirK t) v)) (nrm t) (dt (nrm t) v) := by
  have h := dir_one t
  unfold dt at h
  unfold pl dt nrm upK
  generalize (dirK t).1 = c at *
  generalize (dirK t).2 = s at *
  obtain ⟨x, y⟩ := v
  simp only [Prod.mk.injEq]
  constructor <;> grind
theorem dot_avgN {t u : Rat} (h : 1 + t * u ≠ 0) : dt (nrm t) (avg (nrm t) (nrm u)) = 1 ∧ dt (nrm u) (avg (nrm t) (nrm u)) = 1 := by
  have h1 := (dot_nn h).1
  have h7 : (1 / (1 + dt (nrm t) (nrm u))) * (1 + dt (nrm t) (nrm u)) = 1 := div_mul h1
  have e := nrm_one t
  have e' := nrm_one u
  constructor
  · rw [dt_avg, e]; grind
  · rw [dt_avg, e', dt_comm (nrm u) (nrm t)]; grind
def Pf.okT (p : Pf) : Prop := ∀ k, k < p.n → -1 < p.t k ∧ p.t k < 1
/-- the ends of a domain move by 1 across it -/
theorem nrm_ax (p : Pf) (ho : p.okT) {k : Nat} (hk : k < p.n) : dt (nrm (p.t k)) (p.ax k) = 1 ∧ dt (nrm (p.t k)) (p.ax (k + 1)) = 1 := by
  constructor
  · unfold Pf.ax
    split
    · rename_i h; subst h; exact nrm_one _
    · rw [if_neg (by omega)]
      exact (dot_avgN (ne_tan (ho (k - 1) (by omega)) (ho k hk))).2
  · unfold Pf.ax
    rw [if_neg (by omega)]
    split
    · rw [Nat.add_sub_cancel]; exact nrm_one _
    · rw [Nat.add_sub_cancel]; exact (dot_avgN (ne_tan (ho k hk) (ho (k + 1) (by omega)))).1
/-- the end of a domain's bed is its begin, its length further on -/
theorem bd_succ (p : Pf) (ho : p.okT) (h : Rat) {k : Nat} (hk : k < p.n) : p.bd h (k + 1) = pl (p.bd h k) (dirK (p.t k)) (p.ln h k) := by
  have e1 := ln_eq p h k
  have e2 : dt (nrm (p.t k)) (mn (p.bd h (k + 1)) (p.bd h k)) = 0 := by
    obtain ⟨a, b⟩ := nrm_ax p ho hk
    unfold Pf.bd
    rw [dt_mn, dt_pl, dt_pl, a, b]
    show dt (nrm (p.t k)) (pl (p.at' k) (dirK (p.t k)) (p.l k)) + _ - _ = _
    rw [dt_pl, dt_comm (nrm _) (dirK _), nrm_dir]; grind
  have e3 := split_dn (p.t k) (mn (p.bd h (k + 1)) (p.bd h k))
  rw [e1, e2] at e3
  generalize p.bd h (k + 1) = x at *
  generalize p.bd h k = y at *
  generalize dirK (p.t k) = d at *
  generalize nrm (p.t k) = m at *
  generalize p.ln h k = l at *
  obtain ⟨x1, x2⟩ := x
  obtain ⟨y1, y2⟩ := y
  simp only [mn, pl, Prod.mk.injEq] at e3 ⊢
  constructor <;> grind
/-- a place by its height and how far it is along -/
theorem at_hx (p : Pf) (ho : p.okT) (q : Pt) {k : Nat} (hk : k < p.n) : q = pl (p.bd (p.hK q k) k) (dirK (p.t k)) (p.xK q k) := by
  have e1 : dt (nrm (p.t k)) (mn q (p.bd (p.hK q k) k)) = 0 := by
    obtain ⟨a, b⟩ := nrm_ax p ho hk
    unfold Pf.bd
    rw [dt_mn, dt_pl, a]
    have : p.hK q k = dt (nrm (p.t k)) q - dt (nrm (p.t k)) (p.at' k) := by unfold Pf.hK; rw [dt_mn]
    rw [this]; grind
  have e3 := split_dn (p.t k) (mn q (p.bd (p.hK q k) k))
  rw [e1] at e3
  change mn q (p.bd (p.hK q k) k) = pl (pl (0, 0) (dirK (p.t k)) (p.xK q k)) (nrm (p.t k)) 0 at e3
  generalize p.bd (p.hK q k) k = y at *
  generalize dirK (p.t k) = d at *
  generalize nrm (p.t k) = m at *
  generalize p.xK q k = l at *
  obtain ⟨x1, x2⟩ := q
  obtain ⟨y1, y2⟩ := y
  simp only [mn, pl, Prod.mk.injEq] at e3 ⊢
  constructor <;> grind
end Go.Kk

/-
  KINK: the law Returns (given Make). Own work.
-/
namespace Go.Proofs
open Go Go.Pi Go.RowKit Go.Ar Go.Ge Go.Kk

theorem T6.cb {t : Rat} (h : T6 t) : ∃ e, 36 ≤ e ∧ e ≤ 61 ∧ CB e 60 (dirK t).1 ∧ CB e 60 (dirK t).2 := by
  refine h.cases (q := fun t => ∃ e, 36 ≤ e ∧ e ≤ 61 ∧ CB e 60 (dirK t).1 ∧ CB e 60 (dirK t).2) ?_
  intro k hk
  simp only [List.mem_cons, List.not_mem_nil, or_false] at hk
  rcases hk with rfl | rfl | rfl | rfl | rfl | rfl | rfl | rfl | rfl | rfl | rfl
  · exact ⟨61, by decide, by decide, ⟨11, by decide, by decide +kernel⟩, ⟨-60, by decide, by decide +kernel⟩⟩
  · exact ⟨52, by decide, by decide, ⟨20, by decide, by decide +kernel⟩, ⟨-48, by decide, by decide +kernel⟩⟩
  · exact ⟨45, by decide, by decide, ⟨27, by decide, by decide +kernel⟩, ⟨-36, by decide, by decide +kernel⟩⟩
  · exact ⟨40, by decide, by decide, ⟨32, by decide, by decide +kernel⟩, ⟨-24, by decide, by decide +kernel⟩⟩
  · exact ⟨37, by decide, by decide, ⟨35, by decide, by decide +kernel⟩, ⟨-12, by decide, by decide +kernel⟩⟩
  · exact ⟨36, by decide, by decide, ⟨36, by decide, by decide +kernel⟩, ⟨0, by decide, by decide +kernel⟩⟩
  · exact ⟨37, by decide, by decide, ⟨35, by decide, by decide +kernel⟩, ⟨12, by decide, by decide +kernel⟩⟩
  · exact ⟨40, by decide, by decide, ⟨32, by decide, by decide +kernel⟩, ⟨24, by decide, by decide +kernel⟩⟩
  · exact ⟨45, by decide, by decide, ⟨27, by decide, by decide +kernel⟩, ⟨36, by decide, by decide +kernel⟩⟩
  · exact ⟨52, by decide, by decide, ⟨20, by decide, by decide +kernel⟩, ⟨48, by decide, by decide +kernel⟩⟩
  · exact ⟨61, by decide, by decide, ⟨11, by decide, by decide +kernel⟩, ⟨60, by decide, by decide +kernel⟩⟩
/-- where a domain begins -/
theorem PlK.at_cb (p : PlK) : ∀ k, ∃ D, 0 < D ∧ D ≤ 61 ^ k ∧ CB D ((9 + 6 * k) * 61 ^ k) (p.pf.at' k).1 ∧ CB D ((9 + 6 * k) * 61 ^ k) (p.pf.at' k).2
  | 0 => ⟨1, by decide, by decide, CB.int (by have := tm10 p.x; omega), CB.int (by have := tm10 p.y; omega)⟩
  | k + 1 => by
    obtain ⟨D, h1, h2, h3, h4⟩ := p.at_cb k
    obtain ⟨e, g1, g2, g3, g4⟩ := (p.t6 k).cb
    obtain ⟨z, z1, z2, hz⟩ := p.len16 k
    have hl : CB 1 6 (p.pf.l k) := by
      show CB 1 6 (p.len k)
      rw [hz]; exact CB.int (by omega)
    have hb : ∀ {x d : Rat}, CB D ((9 + 6 * k) * 61 ^ k) x → CB e 60 d → CB (D * e) ((9 + 6 * (k + 1)) * 61 ^ (k + 1)) (x + p.pf.l k * d) := by
      intro x d hx hd
      have a1 := hx.up e
      have a2 := (hl.mul hd).up D
      rw [Nat.one_mul, Nat.mul_comm e D] at a2
      refine (a1.add a2).mono ?_
      have b1 : (9 + 6 * k) * 61 ^ k * e ≤ (9 + 6 * k) * 61 ^ k * 61 := Nat.mul_le_mul_left _ g2
      have b2 : 6 * 60 * D ≤ 6 * 60 * 61 ^ k := Nat.mul_le_mul_left _ h2
      have b3 : (9 + 6 * (k + 1)) * 61 ^ (k + 1) = (9 + 6 * k) * 61 ^ k * 61 + 6 * 61 * 61 ^ k := by rw [Nat.pow_succ]; grind
      omega
    exact ⟨D * e, Nat.mul_pos h1 (by omega), by rw [Nat.pow_succ]; exact Nat.mul_le_mul h2 g2, hb h3 g3, hb h4 g4⟩
/-- a place with quarters: seen from where a domain begins, along it and across -/
theorem PlK.dot_rd (p : PlK) (q : Pt) (h1 : CB 4 164 q.1) (h2 : CB 4 164 q.2) {k : Nat} (hk : k < 4) (v : Pt) (hv : v = dirK (p.dip k) ∨ v = Kk.nrm (p.dip k)) : rd (dt v (Kk.mn q (p.pf.at' k))) ≤ 10 := by
  obtain ⟨D, d1, d2, d3, d4⟩ := p.at_cb k
  obtain ⟨e, g1, g2, g3, g4⟩ := (p.t6 k).cb
  have hD : D ≤ 226981 := Nat.le_trans d2 (Nat.pow_le_pow_right (n := 61) (by decide) (show k ≤ 3 by omega))
  have hK : (9 + 6 * k) * 61 ^ k ≤ 27 * 226981 := Nat.mul_le_mul (by omega) (Nat.pow_le_pow_right (n := 61) (by decide) (show k ≤ 3 by omega))
  have hm : ∀ {x y : Rat}, CB 4 164 x → CB D ((9 + 6 * k) * 61 ^ k) y → CB (4 * D) 61738832 (x + -1 * y) := by
    intro x y hx hy
    have a1 := hx.up D
    have a2 := (hy.neg).up 4
    rw [Nat.mul_comm D 4] at a2
    have a3 := (a1.add a2).mono (l := 61738832) (by omega)
    rwa [show x + -1 * y = x + -y by grind]
  have m1 := hm h1 d3
  have m2 := hm h2 d4
  have hv2 : CB e 60 v.1 ∧ CB e 60 v.2 := by
    rcases hv with rfl | rfl
    · exact ⟨g3, g4⟩
    · exact ⟨g4.neg, g3⟩
  have a := (hv2.1.mul m1).add (hv2.2.mul m2)
  have b : e * (4 * D) ≤ 61 * (4 * 226981) := Nat.mul_le_mul g2 (by omega)
  exact CB.rd10 a (Nat.mul_pos (by omega) (by omega)) (by omega) (by decide)
end Go.Proofs

/-
  KINK: the law Returns (given Make). Own work.
-/
namespace Go.Kk
open Go.Ge Go.Ar

theorem rst_eq (p : Pf) (h a : Rat) : ∀ j, p.rst h a j = a - sumN (p.ln h) j
  | 0 => by show a = a - 0; grind
  | j + 1 => by show p.rst h a j - p.ln h j = a - (sumN (p.ln h) j + p.ln h j); rw [rst_eq p h a j]; grind
theorem sum_le {f : Nat → Rat} {n : Nat} (hf : ∀ k, k < n → 0 < f k) {j : Nat} : ∀ {k : Nat}, j ≤ k → k ≤ n → sumN f j ≤ sumN f k
  | 0, h, _ => by obtain rfl : j = 0 := by omega
                  exact Rat.le_refl
  | k + 1, h, hn => by
    by_cases e : j = k + 1
    · subst e; exact Rat.le_refl
    · have h1 := sum_le hf (j := j) (k := k) (by omega) (by omega)
      have h2 := hf k (by omega)
      show sumN f j ≤ sumN f k + f k
      grind
theorem sum_lt {f : Nat → Rat} {n : Nat} (hf : ∀ k, k < n → 0 < f k) {j k : Nat} (h : j < k) (hn : k ≤ n) : sumN f j < sumN f k := by
  have h1 := sum_le hf (j := j + 1) (k := k) (by omega) hn
  have h2 := hf j (by omega)
  change sumN f j + f j ≤ sumN f k at h1
  grind
theorem win_pos {p : Pf} {h : Rat} (hw : p.win h = true) : ∀ k, k < p.n → 0 < p.ln h k := by
  unfold Pf.win at hw
  exact of_decide_eq_true hw
theorem ugo_some {p : Pf} {q r : Pt} : ∀ {m k : Nat}, k + m = p.n → p.ugo q m k = some r → ∃ j, j < p.n ∧ p.inK q j = true ∧ r = (sumN (p.ln (p.hK q j)) j + p.xK q j, p.hK q j)
  | 0, _, _, h => by cases h
  | m + 1, k, hk, h => by
    unfold Pf.ugo at h
    split at h
    · rename_i hin
      exact ⟨k, by omega, hin, (Option.some.inj h).symm⟩
    · exact ugo_some (m := m) (k := k + 1) (by omega) h
theorem inK_out {p : Pf} {q : Pt} {k : Nat} (h : p.inK q k = true) : p.win (p.hK q k) = true ∧ 0 ≤ p.xK q k ∧ p.xK q k ≤ p.ln (p.hK q k) k := by
  simpa only [Pf.inK, Bool.and_eq_true, decide_eq_true_eq] using h
/-- where folding stops there is the place -/
theorem fold_at (p : Pf) (ho : p.okT) (q : Pt) {k : Nat} (hk : k < p.n) (hin : p.inK q k = true) {j : Nat} (hj : j < p.n)
    (hn : ∀ i, i < j → ¬ p.rst (p.hK q k) (sumN (p.ln (p.hK q k)) k + p.xK q k) i ≤ p.ln (p.hK q k) i) (hs : p.rst (p.hK q k) (sumN (p.ln (p.hK q k)) k + p.xK q k) j ≤ p.ln (p.hK q k) j) :
    p.fpt (p.hK q k) (sumN (p.ln (p.hK q k)) k + p.xK q k) j = q := by
  obtain ⟨hw, h0, h1⟩ := inK_out hin
  have hf := win_pos hw
  have hq := at_hx p ho q hk
  unfold Pf.fpt
  rw [rst_eq] at hs ⊢
  simp only [rst_eq] at hn
  generalize p.hK q k = h at *
  generalize p.xK q k = x at *
  rcases Nat.lt_trichotomy j k with hjk | rfl | hjk
  · have a1 : sumN (p.ln h) (j + 1) = sumN (p.ln h) j + p.ln h j := rfl
    have a2 := sum_le hf (j := j + 1) (k := k) (by omega) (by omega)
    have hx : x = 0 := by grind
    have hjk2 : j + 1 = k := by
      rcases Nat.lt_or_ge (j + 1) k with z | z
      · have := sum_lt hf z (by omega); grind
      · omega
    subst hjk2
    rw [hq, hx, bd_succ p ho h hj, show sumN (p.ln h) (j + 1) + 0 - sumN (p.ln h) j = p.ln h j by rw [a1]; grind]
    unfold pl
    simp only [Prod.mk.injEq]
    constructor <;> grind
  · rw [show sumN (p.ln h) j + x - sumN (p.ln h) j = x by grind]; exact hq.symm
  · exact absurd (by grind) (hn k hjk)
theorem fgo_back (p : Pf) (ho : p.okT) (q : Pt) {k : Nat} (hk : k < p.n) (hin : p.inK q k = true) : ∀ (m j : Nat), j + m = p.n → j ≤ k →
    (∀ i, i < j → ¬ p.rst (p.hK q k) (sumN (p.ln (p.hK q k)) k + p.xK q k) i ≤ p.ln (p.hK q k) i) → p.fgo (p.hK q k) (sumN (p.ln (p.hK q k)) k + p.xK q k) m j = some q
  | 0, j, h, hjk, _ => by omega
  | m + 1, j, h, hjk, hn => by
    unfold Pf.fgo
    split
    · rename_i hs
      rw [fold_at p ho q hk hin (by omega) hn hs]
    · rename_i hs
      have hne : j ≠ k := fun e => by
        subst e
        have := (inK_out hin).2.2
        rw [rst_eq] at hs
        exact hs (by grind)
      refine fgo_back p ho q hk hin m (j + 1) (by omega) (by omega) (fun i hi => ?_)
      by_cases e : i = j
      · subst e; exact hs
      · exact hn i (by omega)
theorem sum_nn {p : Pf} {h : Rat} (hw : p.win h = true) {k : Nat} (hk : k ≤ p.n) : 0 ≤ sumN (p.ln h) k := sum_le (win_pos hw) (j := 0) (Nat.zero_le _) hk
end Go.Kk
namespace Go.Proofs
open Go Go.Pi Go.RowKit Go.Ar Go.Ge Go.Kk

theorem xK_eq (p : Pf) (ho : p.okT) (q : Pt) {k : Nat} (hk : k < p.n) : p.xK q k = dt (dirK (p.t k)) (Kk.mn q (p.at' k)) - p.hK q k * (if k = 0 then 0 else tanH (p.t k) (p.t (k - 1))) := by
  have e : dt (dirK (p.t k)) (p.ax k) = if k = 0 then 0 else tanH (p.t k) (p.t (k - 1)) := by
    unfold Pf.ax
    split
    · rename_i h; subst h; exact nrm_dir _
    · rename_i h; rw [if_neg (by omega)]; exact dot_avg' (ne_tan (ho k hk) (ho (k - 1) (by omega)))
  unfold Pf.xK Pf.bd
  rw [dt_mn, dt_mn, dt_pl, e]
  grind
theorem PlK.okT (p : PlK) : p.pf.okT := fun k _ => (p.t6 k).in1
/-- all sizes of an unfolded place -/
theorem PlK.unf_sz (p : PlK) (hp : p.ok) (q : Pt) (h1 : CB 4 164 q.1) (h2 : CB 4 164 q.2) {k : Nat} (hk : k < p.pf.n) : rd (p.pf.hK q k) ≤ 10 ∧ rd (sumN (p.pf.ln (p.pf.hK q k)) k + p.pf.xK q k) ≤ 200 := by
  have hn := (p.n4 hp).2
  have a1 : rd (p.pf.hK q k) ≤ 10 := p.dot_rd q h1 h2 (by omega) _ (.inr rfl)
  have a2 : rd (dt (dirK (p.pf.t k)) (Kk.mn q (p.pf.at' k))) ≤ 10 := p.dot_rd q h1 h2 (by omega) _ (.inl rfl)
  refine ⟨a1, ?_⟩
  have a3 : rd (if k = 0 then 0 else tanH (p.pf.t k) (p.pf.t (k - 1))) ≤ 2 := by
    split
    · rw [rd_zero0]; omega
    · exact (p.t6 k).tan (p.t6 (k - 1))
  have a4 := rd_mul (p.pf.hK q k) (if k = 0 then 0 else tanH (p.pf.t k) (p.pf.t (k - 1)))
  have a5 := rd_sub (dt (dirK (p.pf.t k)) (Kk.mn q (p.pf.at' k))) (p.pf.hK q k * (if k = 0 then 0 else tanH (p.pf.t k) (p.pf.t (k - 1))))
  rw [← xK_eq p.pf p.okT q hk] at a5
  have a6 := rd_sumN (f := p.pf.ln (p.pf.hK q k)) (m := 17) (n := k) (fun j hj => p.ln_rd hp a1 (by omega))
  have a7 : k * (17 + 1) ≤ 3 * 18 := Nat.mul_le_mul (by omega) (by omega)
  have a8 := rd_add (sumN (p.pf.ln (p.pf.hK q k)) k) (p.pf.xK q k)
  omega
end Go.Proofs

/-
  KINK: the law Returns (given Make). Own work.
-/
namespace Go.Proofs
open Go Go.Pi Go.RowKit Go.Ar Go.Ge Go.Kk

theorem quar_cb {z : Int} (h : i8K z) : CB 4 128 (quar z) := by
  unfold i8K at h
  refine ⟨z, by omega, ?_⟩
  unfold quar
  rw [Rat.mkRat_eq_div]
  exact div_mul (by decide)
set_option maxRecDepth 100000 in
set_option maxHeartbeats 8000000 in
theorem Tryz.lReturns (hM : Tryz.MakeOk) (p : PlK) (hp : p.fit) (x y : Int) (hx : i8K x) (hy : i8K y) : Con Tryz.prog Tryz.L 8 [.agg p.D, .agg [.int .i8 x, .int .i8 y]] (.bool true) := by
  have ck := Tryz.kknown
  refine rule8 Tryz.hL rfl rfl rfl ?_
  simp only [PlK.D, pc8, rs8, oU, oC, evX, evY, evZ, forall_const, implies_true, initE, stepF, D.clean, mvF, moF, tkF, shF, ariF, ciF, catF, scF, ebF, eqF, eqOk, eqPr, enF, notF, ngF, cvF, csF, csbF, lenF, lenSF, ixF, iaF, PX.slot, iaAF, faF, ldF, D.mem, stF, bxF, mkSF, boundF, fldF, ixAF, mmF2, D.plain, D.isPure, optAll, D.dull, callVF, splice, D.cells, D.one, sets, resT, D.flat, D.flat0, D.simple, Nat.reduceBNe, Nat.reduceLT, reduceIte, Nat.reduceEqDiff, Nat.reduceAdd, Nat.reduceMul, Nat.reduceSub, Nat.reduceLeDiff, Int.reduceToNat, Int.reduceLT, Int.reduceLE, Int.reduceEq, Int.reduceNeg, Int.reduceSub, Int.reduceAdd, Int.reduceMul, stG_own]
  refine callF_of ck ?_
  (refine ev ?_; try with_reducible exact trivial)
  refine ⟨fun h => ?_, fun h => ?_⟩
  · refine callF_of ck ?_
    (refine ev ?_; try with_reducible exact trivial)
  · have hok := hp.ok (by omega)
    have hs := p.psz hok
    have hqx := quar_rd hx
    have hqy := quar_rd hy
    have c1 := hM p hok
    have c3 := Tryz.rof x 4 (by decide) (by unfold i8K at hx; rw [inR_i64]; omega) (by rw [inR_i64]; omega)
    have c3' := Tryz.rof y 4 (by decide) (by unfold i8K at hy; rw [inR_i64]; omega) (by rw [inR_i64]; omega)
    change Con _ _ _ _ (.tup [.str (rt (quar x)), .int .i64 0]) at c3
    change Con _ _ _ _ (.tup [.str (rt (quar y)), .int .i64 0]) at c3'
    have s1 : CB 4 164 (p.pf.s.1 + quar x) := by
      have := (CB.int (z := p.x.tmod 10) (k := 9) (by have := tm10 p.x; omega)).up 4
      exact (this.add (quar_cb hx)).mono (by omega)
    have s2 : CB 4 164 (p.pf.s.2 + quar y) := by
      have := (CB.int (z := p.y.tmod 10) (k := 9) (by have := tm10 p.y; omega)).up 4
      exact (this.add (quar_cb hy)).mono (by omega)
    have z1 : rd p.pf.s.1 ≤ 1 := rd_small (tm10 _).1 (tm10 _).2
    have z2 : rd p.pf.s.2 ≤ 1 := rd_small (tm10 _).1 (tm10 _).2
    have m1 := Tryz.radd p.pf.s.1 (quar x) (by omega) (by omega)
    have m2 := Tryz.radd p.pf.s.2 (quar y) (by omega) (by omega)
    obtain ⟨q, hq⟩ : ∃ q : Pt, q = (p.pf.s.1 + quar x, p.pf.s.2 + quar y) := ⟨_, rfl⟩
    have q1 : q.1 = p.pf.s.1 + quar x := by rw [hq]
    have q2 : q.2 = p.pf.s.2 + quar y := by rw [hq]
    rw [← q1] at s1 m1
    rw [← q2] at s2 m2
    have hsz : Sz 200 q := ⟨Nat.le_trans (s1.rd10 (by decide) (by decide) (by decide)) (by omega), Nat.le_trans (s2.rd10 (by decide) (by decide) (by decide)) (by omega)⟩
    have hu := fun k (hk : k < p.pf.n) => p.unf_sz hok q s1 s2 hk
    have cu := Tryz.kUnfold p.pf hs q hsz (fun k hk => by have := (hu k hk).1; omega) (fun k hk _ => ⟨(hu k hk).2, by have := (hu k hk).1; show rd (p.pf.hK q k) ≤ 200; omega⟩)
    have ho := p.okT
    have hn0 := hs.n0
    clear hq z1 z2 s1 s2
    cases hg : p.pf.ugo q p.pf.n 0 with
    | none =>
      rw [hg] at cu
      clear hg hu
      generalize quar x = a at *
      generalize quar y = b at *
      generalize p.pf = f at *
      simp only [PlK.D] at c1
      simp only [pfD, ptD, unfD] at c1 cu
      unfold i8K at hx hy
      refine callF_of c1 ?_
      (refine ev ?_; try with_reducible exact trivial)
      refine ⟨by decide, by omega, ?_⟩
      refine callF_of c3 ?_
      (refine ev ?_; try with_reducible exact trivial)
      refine ⟨by decide, by omega, ?_⟩
      refine callF_of c3' ?_
      (refine ev ?_; try with_reducible exact trivial)
      refine callF_of m1 ?_
      (refine ev ?_; try with_reducible exact trivial)
      refine callF_of m2 ?_
      (refine ev ?_; try with_reducible exact trivial)
      refine callF_of cu ?_
      (refine ev ?_; try with_reducible exact trivial)
    | some r =>
      rw [hg] at cu
      obtain ⟨j, hj, hin, rfl⟩ := ugo_some (by omega) hg
      have hw := (inK_out hin).1
      have hx0 := (inK_out hin).2.1
      have hnn := sum_nn hw (k := j) (by omega)
      have cf := Tryz.kFold p.pf hs (sumN (p.pf.ln (p.pf.hK q j)) j + p.pf.xK q j) (p.pf.hK q j) (hu j hj).2 (by have := (hu j hj).1; omega) (fun k hk h1 h2 => by rw [fold_at p.pf ho q hj hin hk h1 h2]; exact hsz)
      rw [if_pos hw, if_neg (by grind), fgo_back p.pf ho q hj hin p.pf.n 0 (by omega) (by omega) (fun i hi => absurd hi (Nat.not_lt_zero i))] at cf
      clear hg hu hw hx0 hnn hin
      generalize sumN (p.pf.ln (p.pf.hK q j)) j + p.pf.xK q j = u at *
      generalize p.pf.hK q j = h9 at *
      generalize quar x = a at *
      generalize quar y = b at *
      generalize p.pf = f at *
      simp only [PlK.D] at c1
      simp only [pfD, ptD, unfD, foldD] at c1 cu cf
      unfold i8K at hx hy
      refine callF_of c1 ?_
      (refine ev ?_; try with_reducible exact trivial)
      refine ⟨by decide, by omega, ?_⟩
      refine callF_of c3 ?_
      (refine ev ?_; try with_reducible exact trivial)
      refine ⟨by decide, by omega, ?_⟩
      refine callF_of c3' ?_
      (refine ev ?_; try with_reducible exact trivial)
      refine callF_of m1 ?_
      (refine ev ?_; try with_reducible exact trivial)
      refine callF_of m2 ?_
      (refine ev ?_; try with_reducible exact trivial)
      refine callF_of cu ?_
      (refine ev ?_; try with_reducible exact trivial)
      refine callF_of cf ?_
      (refine ev ?_; try with_reducible exact trivial)
end Go.Proofs
