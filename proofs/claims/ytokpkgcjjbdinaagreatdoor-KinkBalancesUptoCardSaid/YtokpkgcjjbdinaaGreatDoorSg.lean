/-
 KINK: the iterator over the domains of a profile. Own work.
-/
import Derived.Test.YtokpkgcjjbdinaaGreatDoorSf
import Derived.Test.YtokpkgcjjbdinaaGreatDoorPi
import Derived.Test.YtokpkgcjjbdinaaGreatDoorPj
import Derived.Test.YtokpkgcjjbdinaaGreatDoorSc
import Derived.Test.YtokpkgcjjbdinaaGreatDoorEf
import Derived.RangeFuncBox
import Derived.RangeFuncLeaves
import Derived.Shelf.Abstract
import Derived.WalkKit
import Derived.OwnWalkIn
import Derived.TacticsInMore
import Derived.LoopNIn
import Derived.LoopIn
import Derived.Stop.RegionWithIn
import Derived.Test.YtokpkgcjjbdinaaGreatDoorProg
import Derived.KernelRfl
import Derived.Test.YtokpkgcjjbdinaaGreatDoorPl
import Derived.Test.YtokpkgcjjbdinaaGreatDoorPn
set_option linter.unusedVariables false
set_option linter.unusedSimpArgs false
namespace Go.Proofs
open Go Go.Pi Go.RowKit Go.Ar Go.Ge Go.Kk Go.Shelf
attribute [local go_sem] Oper.semAt_some

/-- n numbers as data -/
abbrev nms (n : Nat) (f : Nat → Rat) : List D := lst n fun k => .str (rt (f k))
def pfD (p : Pf) : List D := [.str (rt p.s.1), .str (rt p.s.2), .sl p.n (nms p.n p.t), .sl p.n (nms p.n p.l)]
def dmD (x : Dm) : List D := [.str (rt x.a.1), .str (rt x.a.2), .str (rt x.n.1), .str (rt x.n.2), .str (rt x.f.1), .str (rt x.f.2), .str (rt x.l)]

/-- numbers of a bounded size; right dips and lengths -/
structure PSz (p : Pf) : Prop where
 n0 : 0 < p.n
 n : p.n ≤ 4
 t : ∀ k, k < p.n → rd (p.t k) ≤ 10
 l : ∀ k, k < p.n → rd (p.l k) ≤ 10
 at' : ∀ k, k ≤ p.n → Sz 100 (p.at' k)
 ax : ∀ k, k ≤ p.n → Sz 100 (p.ax k)
 gr : ∀ k, k < p.n → rd (p.gr k) ≤ 100
 ok : ∀ k, k < p.n → -1 < p.t k ∧ p.t k < 1 ∧ 0 < p.l k

def sq115 (cs xs : List D) : Prop := ∃ p : Pf, cs = [.pt (pfD p)] ∧ PSz p ∧ xs = lst p.n fun k => .agg (dmD (p.dm k))

/-- what is taken together in a new block -/
theorem boxed_res {P : Program} {S : Nat → Nat → Prop} {w : World} {f t : Nat} {ds : List D} {vs : List Value} (hx : Reps S w ds vs) (h1 : ∀ d ∈ ds, d.one = true) (hS : ∀ b j, S b j → b < w.heap.size) :
  Res P S w (w.alloc (.cells vs.toArray t)) (.clo f [.pt ds]) (.func (.func f) #[] #[.pointer (some ⟨w.heap.size, 0, none⟩)]) := by
 have hr : Reps (fun b j => S b j ∨ (w.heap.size ≤ b ∧ b < (w.alloc (.cells vs.toArray t)).heap.size)) (w.alloc (.cells vs.toArray t)) ds vs :=
  hx.mono (fun _ _ h => .inl h) (fun b o h => cell_of_heap (Below.heap_alloc _ _ b (hS b o h)))
 refine .clo f _ [.pointer (some ⟨w.heap.size, 0, none⟩)] rfl (Reps.cons (.pt ds w.heap.size 0 vs hr.1 h1 ?_ hr.2) .nil).2
 intro i v hi
 refine ⟨.inr ⟨Nat.le_refl _, by simp⟩, ?_⟩
 have hn := World.alloc_heap_new w (.cells vs.toArray t)
 simp only [World.cell?, hn]
 simpa using hi

theorem Tryz.cdomains {L : World → Prop} (p : Pf) : Con Tryz.prog L 73 [.agg (pfD p)] (.clo 115 [.pt (pfD p)]) := by
 refine ⟨⟨by kernel_rfl, rfl⟩, fun S w vs hS hL hv => ?_⟩
 obtain ⟨x, rfl, hx⟩ := reps_1 hv
 obtain ⟨a, b, c, d, rfl, h4⟩ : ∃ a b c d, x = .agg #[a, b, c, d] ∧ Reps S w (pfD p) [a, b, c, d] := by
  cases hx with
  | agg _ vs hl _ h =>
    match vs, hl with
    | [a, b, c, d], hl => exact ⟨a, b, c, d, rfl, hl, h⟩
 have HX := Lib.hid h4
 clear h4 hv hx
 go_enter Tryz.func73, Tryz.ntmps73
 go_wp2
 go_ret
 exact ⟨_, rfl, (Below.refl _ _).alloc (Nat.le_refl _) _, boxed_res (vs := [a, b, c, d]) HX.out (by simp [pfD, D.one]) hS⟩

theorem rep_str {S : Nat → Nat → Prop} {w : World} {l : List UInt8} {v : Value} (h : Rep S w (.str l) v) : v = .string ⟨l.toArray⟩ := by cases h; rfl
theorem rep_pt {S : Nat → Nat → Prop} {w : World} {q : Pt} {v : Value} (h : Rep S w (ptD q) v) : v = .agg #[.string ⟨(rt q.1).toArray⟩, .string ⟨(rt q.2).toArray⟩] ∧ (rt q.1).length ≤ maxLen ∧ (rt q.2).length ≤ maxLen := by
 cases h with
 | agg _ vs hl _ h =>
   match vs, hl with
   | [a, b], hl =>
     have h1 := h 0 _ _ rfl rfl
     have h2 := h 1 _ _ rfl rfl
     cases h1; cases h2
     exact ⟨rfl, by assumption, by assumption⟩
theorem pt_rep {S : Nat → Nat → Prop} {w : World} {q : Pt} (h1 : (rt q.1).length ≤ maxLen) (h2 : (rt q.2).length ≤ maxLen) : Rep S w (ptD q) (.agg #[.string ⟨(rt q.1).toArray⟩, .string ⟨(rt q.2).toArray⟩]) :=
 .agg _ [.string ⟨(rt q.1).toArray⟩, .string ⟨(rt q.2).toArray⟩] rfl (by simp [D.one]) (Reps.cons (.str _ h1) (Reps.cons (.str _ h2) .nil)).2
theorem sl_at {S : Nat → Nat → Prop} {w : World} {n cap k : Nat} {f : Nat → Rat} {ad : Option Addr} (h : Rep S w (.sl n (nms n f)) (.slice ad n cap)) (hk : k < n) :
  ∃ b off, ad = some ⟨b, off, none⟩ ∧ n ≤ cap ∧ S b (off + k) ∧ w.cell? ⟨b, off + k, none⟩ = some (.string ⟨(rt (f k)).toArray⟩) ∧ (rt (f k)).length ≤ maxLen := by
 generalize hx : nms n f = cs at h
 cases h with
 | sl0 => omega
 | slN => omega
 | sl _ _ b off cap vs hl h1 hn hc hr hh =>
   subst hx
   rw [lst_len] at hl
   have hv : vs[k]? = some vs[k] := List.getElem?_eq_getElem (by omega)
   have h2 := hh k _ _ (lst_at _ hk) hv
   obtain ⟨h3, h4⟩ := hr k _ hv
   generalize vs[k] = u at *
   cases h2
   exact ⟨b, off, rfl, hn, h3, h4, by assumption⟩
theorem setCell_at {W : World} {b t off : Nat} {c : Array Value} {fr : Nat × Nat} (u : Value) (h : W.heap[b]? = some (.cells c t fr)) : (W.setCell ⟨b, off, none⟩ u).heap[b]? = some (.cells (c.setIfInBounds off u) t fr) := by
 obtain ⟨hlt, hk⟩ := Array.getElem?_eq_some_iff.1 h
 have e : (W.setCell ⟨b, off, none⟩ u).heap = W.heap.modify b (fun | .cells c elem frozen => .cells (if (none : Option Nat).isSome then c else c.setIfInBounds off u) elem frozen | o => o) := rfl
 rw [e, Array.getElem?_eq_getElem (by rw [Array.size_modify]; exact hlt), Array.getElem_modify_self, hk]
 rfl
theorem turn_set2 {W : World} {b t : Nat} {x y : Value} (u v : Value) (h : W.heap[b]? = some (.cells #[x, y] t (0, 0))) :
  Turn b W ((W.setCell ⟨b, 0, none⟩ u).setCell ⟨b, 1, none⟩ v) ∧ ((W.setCell ⟨b, 0, none⟩ u).setCell ⟨b, 1, none⟩ v).heap[b]? = some (.cells #[u, v] t (0, 0)) := by
 refine ⟨⟨⟨_, _, _, h⟩, by simp [World.setCell], fun k hk => (Below.heap_setCell _ _ _ k hk).trans (Below.heap_setCell _ _ _ k hk), rfl, rfl, rfl⟩, ?_⟩
 have h1 := setCell_at (off := 0) u h
 exact setCell_at (off := 1) v h1
theorem rep_slv {S : Nat → Nat → Prop} {w : World} {n : Nat} {cs : List D} {v : Value} (h : Rep S w (.sl n cs) v) : ∃ ad cap, v = .slice ad n cap := by cases h <;> exact ⟨_, _, rfl⟩

set_option maxRecDepth 100000 in
set_option maxHeartbeats 4000000 in
theorem Tryz.seqDom : IsSeq Tryz.prog Tryz.L 115 sq115 := by
 intro nn l vs J Z cs xs S0 W0 hsq hS0 hr hJ hB hC hT hZ hZc hY h0
 obtain ⟨p, rfl, hp, rfl⟩ := hsq
 obtain ⟨x, rfl, hx⟩ := reps_1 hr
 obtain ⟨Bs, bo, va, vb, vc, vd, rfl, hrow, h4⟩ : ∃ Bs bo a b c d, x = .pointer (some ⟨Bs, bo, none⟩) ∧ Row S0 W0 Bs bo [a, b, c, d] ∧ Reps S0 W0 (pfD p) [a, b, c, d] := by
  cases hx with
  | pt _ b off vs hl _ hr h =>
    match vs, hl with
    | [a, b', c, d], hl => exact ⟨b, off, a, b', c, d, rfl, hr, hl, h⟩
 have ea := rep_str (h4.2 0 _ _ rfl rfl)
 have eb := rep_str (h4.2 1 _ _ rfl rfl)
 have hsc := h4.2 2 _ _ rfl rfl
 have hsd := h4.2 3 _ _ rfl rfl
 obtain ⟨c0, c1, c2, c3⟩ : W0.cell? ⟨Bs, bo, none⟩ = some va ∧ W0.cell? ⟨Bs, bo + 1, none⟩ = some vb ∧ W0.cell? ⟨Bs, bo + 2, none⟩ = some vc ∧ W0.cell? ⟨Bs, bo + 3, none⟩ = some vd :=
  ⟨(hrow 0 _ rfl).2, (hrow 1 _ rfl).2, (hrow 2 _ rfl).2, (hrow 3 _ rfl).2⟩
 obtain ⟨s0, s1, s2, s3⟩ : S0 Bs bo ∧ S0 Bs (bo + 1) ∧ S0 Bs (bo + 2) ∧ S0 Bs (bo + 3) :=
  ⟨(hrow 0 _ rfl).1, (hrow 1 _ rfl).1, (hrow 2 _ rfl).1, (hrow 3 _ rfl).1⟩
 obtain ⟨ac, capc, rfl⟩ : ∃ ad cap, vc = .slice ad p.n cap := rep_slv hsc
 obtain ⟨ad, capd, rfl⟩ : ∃ ad cap, vd = .slice ad p.n cap := rep_slv hsd
 subst ea eb
 refine callsIn_of_wp Tryz.func115 rfl trivial ?_ rfl
 simp only [Tryz.ntmps115, List.size_toArray, List.length_cons, List.length_nil, Nat.reduceAdd, Nat.reduceSub, Array.replicate_succ, Array.replicate_zero, List.push_toArray, List.append_toArray, List.nil_append, List.cons_append]
 have hpn := hp.n
 have hx0 := Lib.hid (And.intro hsc (And.intro hsd (And.intro hr (And.intro hx h4))))
 clear hsc hsd hr hx h4 hrow
 have c2' : ∀ o, (W0.alloc o).cell? ⟨Bs, bo + 2, none⟩ = some (.slice ac p.n capc) := fun o => (cell_of_heap (Below.heap_alloc W0 o Bs (hS0 _ _ s2))).trans c2
 gi_wp2
 gi_loopw [12] (fun i wr => ∃ k : Nat, k ≤ p.n ∧ i = .int .i64 (k : Int) ∧ ∃ B : Nat → Prop, J B k wr ∧ B W0.heap.size ∧ wr.heap[W0.heap.size]? = some (.cells #[.string ⟨(rt (p.at' k).1).toArray⟩, .string ⟨(rt (p.at' k).2).toArray⟩] 25 (0, 0))) (fun i _ => ((p.n : Int) - intOf i).toNat)
 case atStart => exact ⟨0, Nat.zero_le _, rfl, _, hC _ _ _ _ W0.heap.size h0 ((Below.refl _ _).alloc (Nat.le_refl _) _) (Nat.le_refl _) (by simp), .inr rfl, World.alloc_heap_new W0 _⟩
 case round => 
  obtain ⟨k, hk, rfl, B, hJB, hBat, hat⟩ := hrel
  obtain ⟨hLw, hsz, hfr⟩ := hJ B k wr hJB
  by_cases hlt : k < p.n
  ·obtain ⟨b1, o1, rfl, hcap1, hs1, hd1, hm1⟩ := sl_at hx0.out.1 hlt
   obtain ⟨b2, o2, rfl, hcap2, hs2, hd2, hm2⟩ := sl_at hx0.out.2.1 hlt
   have hd1 := (hfr b1 (o1 + k) hs1).trans hd1
   have hd2' := hd2
   have c3' := c3
   have ht1 : (rt (p.at' k).1).length ≤ maxLen := by have h1 := rt_len (p.at' k).1; have h2 := (hp.at' k hk).1; simp only [maxLen]; omega
   have ht2 : (rt (p.at' k).2).length ≤ maxLen := by have h1 := rt_len (p.at' k).2; have h2 := (hp.at' k hk).2; simp only [maxLen]; omega
   have hd2 := (hfr b2 (o2 + k) hs2).trans hd2
   have c3 := (hfr Bs (bo + 3) s3).trans c3
   have con1 := (Tryz.kdir (p.t k) (by have := hp.t k hlt; omega)).2 S0 wr [.string ⟨(rt (p.t k)).toArray⟩] (fun b j h => Nat.lt_of_lt_of_le (hS0 b j h) hsz) hLw (Reps.cons (.str _ hm1) .nil)
   gi_wp2_with ((first | refine ⟨trivial, ?_⟩ | skip); gi_at_call 56; refine CallsIn.mono (callsIn_wide.2 con1) ?_; rintro e w1 ⟨v1, rfl, hb1, hr1⟩; obtain ⟨rfl, hq1, hq2⟩ := rep_pt hr1)
   have J1 := hB B k wr w1 hJB hb1
   have J2 := hC B k w1 _ w1.heap.size J1 ((Below.refl _ w1).alloc (Nat.le_refl _) (Obj.cells #[Value.string ⟨(rt (Kk.dirK (p.t k)).1).toArray⟩, Value.string ⟨(rt (Kk.dirK (p.t k)).2).toArray⟩] 25)) (Nat.le_refl _) (by simp)
   have hbb : Below wr.heap.size wr (w1.alloc (Obj.cells #[Value.string ⟨(rt (Kk.dirK (p.t k)).1).toArray⟩, Value.string ⟨(rt (Kk.dirK (p.t k)).2).toArray⟩] 25)) := hb1.alloc hb1.size _
   have hnew := World.alloc_heap_new w1 (Obj.cells #[Value.string ⟨(rt (Kk.dirK (p.t k)).1).toArray⟩, Value.string ⟨(rt (Kk.dirK (p.t k)).2).toArray⟩] 25)
   generalize (w1.alloc (Obj.cells #[Value.string ⟨(rt (Kk.dirK (p.t k)).1).toArray⟩, Value.string ⟨(rt (Kk.dirK (p.t k)).2).toArray⟩] 25)) = W2 at *
   have hat2 := (hbb.block _ (Array.getElem?_eq_some_iff.1 hat).1).trans hat
   have hn1 : w1.heap.size < W2.heap.size := (Array.getElem?_eq_some_iff.1 hnew).1
   have ha1 : W0.heap.size < W2.heap.size := (Array.getElem?_eq_some_iff.1 hat2).1
   have cl : ∀ (W : World), W.heap[w1.heap.size]? = W2.heap[w1.heap.size]? → W.cell? ⟨w1.heap.size, 0, none⟩ = some (.string ⟨(rt (Kk.dirK (p.t k)).1).toArray⟩) ∧ W.cell? ⟨w1.heap.size, 1, none⟩ = some (.string ⟨(rt (Kk.dirK (p.t k)).2).toArray⟩) := fun W h => by
    rw [hnew] at h; exact ⟨by simp [World.cell?, h], by simp [World.cell?, h]⟩
   have ct : ∀ (W : World), W.heap[W0.heap.size]? = W2.heap[W0.heap.size]? → W.cell? ⟨W0.heap.size, 0, none⟩ = some (.string ⟨(rt (p.at' k).1).toArray⟩) ∧ W.cell? ⟨W0.heap.size, 1, none⟩ = some (.string ⟨(rt (p.at' k).2).toArray⟩) := fun W h => by
    rw [hat2] at h; exact ⟨by simp [World.cell?, h], by simp [World.cell?, h]⟩
   obtain ⟨e1, e2⟩ := cl W2 rfl
   obtain ⟨e3, e4⟩ := ct W2 rfl
   obtain ⟨hL2, hsz2, hfr2⟩ := hJ _ k W2 J2
   have e5 := (hfr2 Bs (bo + 3) s3).trans c3'
   have e6 := (hfr2 b2 (o2 + k) hs2).trans hd2'
   have con2 := (Tryz.kup (Kk.dirK (p.t k)) ((Sz.dirK (Nat.le_trans (hp.t k hlt) (Nat.le_refl 10))).mono (by omega))).2 S0 W2.drew [.agg #[.string ⟨(rt (Kk.dirK (p.t k)).1).toArray⟩, .string ⟨(rt (Kk.dirK (p.t k)).2).toArray⟩]] (fun b j h => Nat.lt_of_lt_of_le (hS0 b j h) hsz2) (Tryz.hL _ _ hL2 (Below.refl _ _).drew) (Reps.cons (pt_rep hq1 hq2) .nil)
   have eS : (fun W : World => (W.cell? ⟨w1.heap.size, 0, none⟩ = some (.string ⟨(rt (Kk.dirK (p.t k)).1).toArray⟩) ∧ W.cell? ⟨w1.heap.size, 1, none⟩ = some (.string ⟨(rt (Kk.dirK (p.t k)).2).toArray⟩)) ∧ (W.cell? ⟨W0.heap.size, 0, none⟩ = some (.string ⟨(rt (p.at' k).1).toArray⟩) ∧ W.cell? ⟨W0.heap.size, 1, none⟩ = some (.string ⟨(rt (p.at' k).2).toArray⟩)) ∧
     W.cell? ⟨Bs, bo + 3, none⟩ = some (.slice (some ⟨b2, o2, none⟩) p.n capd) ∧ W.cell? ⟨b2, o2 + k, none⟩ = some (.string ⟨(rt (p.l k)).toArray⟩)) = fun W : World => (W.cell? ⟨w1.heap.size, 0, none⟩ = some (.string ⟨(rt (Kk.dirK (p.t k)).1).toArray⟩) ∧ W.cell? ⟨w1.heap.size, 1, none⟩ = some (.string ⟨(rt (Kk.dirK (p.t k)).2).toArray⟩)) ∧ (W.cell? ⟨W0.heap.size, 0, none⟩ = some (.string ⟨(rt (p.at' k).1).toArray⟩) ∧ W.cell? ⟨W0.heap.size, 1, none⟩ = some (.string ⟨(rt (p.at' k).2).toArray⟩)) ∧
     W.cell? ⟨Bs, bo + 3, none⟩ = some (.slice (some ⟨b2, o2, none⟩) p.n capd) ∧ W.cell? ⟨b2, o2 + k, none⟩ = some (.string ⟨(rt (p.l k)).toArray⟩) := rfl
   generalize hSd : (fun W : World => (W.cell? ⟨w1.heap.size, 0, none⟩ = some (.string ⟨(rt (Kk.dirK (p.t k)).1).toArray⟩) ∧ W.cell? ⟨w1.heap.size, 1, none⟩ = some (.string ⟨(rt (Kk.dirK (p.t k)).2).toArray⟩)) ∧ (W.cell? ⟨W0.heap.size, 0, none⟩ = some (.string ⟨(rt (p.at' k).1).toArray⟩) ∧ W.cell? ⟨W0.heap.size, 1, none⟩ = some (.string ⟨(rt (p.at' k).2).toArray⟩)) ∧
     W.cell? ⟨Bs, bo + 3, none⟩ = some (.slice (some ⟨b2, o2, none⟩) p.n capd) ∧ W.cell? ⟨b2, o2 + k, none⟩ = some (.string ⟨(rt (p.l k)).toArray⟩)) = S at eS
   have hSof : ∀ W, S W → (W.cell? ⟨w1.heap.size, 0, none⟩ = some (.string ⟨(rt (Kk.dirK (p.t k)).1).toArray⟩) ∧ W.cell? ⟨w1.heap.size, 1, none⟩ = some (.string ⟨(rt (Kk.dirK (p.t k)).2).toArray⟩)) ∧ (W.cell? ⟨W0.heap.size, 0, none⟩ = some (.string ⟨(rt (p.at' k).1).toArray⟩) ∧ W.cell? ⟨W0.heap.size, 1, none⟩ = some (.string ⟨(rt (p.at' k).2).toArray⟩)) ∧
     W.cell? ⟨Bs, bo + 3, none⟩ = some (.slice (some ⟨b2, o2, none⟩) p.n capd) ∧ W.cell? ⟨b2, o2 + k, none⟩ = some (.string ⟨(rt (p.l k)).toArray⟩) := fun W h => by rw [← hSd] at h; exact h
   have hSto : ∀ W : World, W.heap[w1.heap.size]? = W2.heap[w1.heap.size]? → W.heap[W0.heap.size]? = W2.heap[W0.heap.size]? → W.cell? ⟨Bs, bo + 3, none⟩ = some (.slice (some ⟨b2, o2, none⟩) p.n capd) → W.cell? ⟨b2, o2 + k, none⟩ = some (.string ⟨(rt (p.l k)).toArray⟩) → S W := fun W h1 h2 h3 h4 => by rw [← hSd]; exact ⟨cl W h1, ct W h2, h3, h4⟩
   clear hSd eS
   have hS2 : S W2.drew := hSto _ rfl rfl e5 e6
   refine wpIn_region_heldK (S := S) (by kernel_rfl) ?_
   change wpAnyK _ _ _ _ _ _ _ _ _ _ (World.drew _)
   refine wpAnyK_take (i := 0) (v := ?_) rfl rfl (by kernel_rfl) (by kernel_rfl) (by kernel_rfl) (fun _ _ _ h => h) ⟨.inl ⟨by rfl, ?_⟩, fun _ => rfl⟩ hS2 ?_
   rotate_left
   ·intro W hW; obtain ⟨⟨g1, g2⟩, ⟨g3, g4⟩, g5, g6⟩ := hSof W hW; go_simp; (try with_reducible rfl)
   simp only [Act.put]
   refine wpAnyK_take (i := 1) (v := ?_) rfl rfl (by kernel_rfl) (by kernel_rfl) (by kernel_rfl) (fun _ _ _ h => h) ⟨.inl ⟨by rfl, ?_⟩, fun _ => rfl⟩ hS2 ?_
   rotate_left
   ·intro W hW; obtain ⟨⟨g1, g2⟩, ⟨g3, g4⟩, g5, g6⟩ := hSof W hW; go_simp; (try with_reducible rfl)
   simp only [Act.put]
   refine wpAnyK_take (i := 2) (v := ?_) rfl rfl (by kernel_rfl) (by kernel_rfl) (by kernel_rfl) (fun _ _ _ h => h) ⟨.inl ⟨by rfl, ?_⟩, fun _ => rfl⟩ hS2 ?_
   rotate_left
   ·intro W hW; obtain ⟨⟨g1, g2⟩, ⟨g3, g4⟩, g5, g6⟩ := hSof W hW; go_simp; (try with_reducible rfl)
   simp only [Act.put]
   refine wpAnyK_take (i := 3) (v := ?_) rfl rfl (by kernel_rfl) (by kernel_rfl) (by kernel_rfl) (fun _ _ _ h => h) ⟨.inl ⟨by rfl, ?_⟩, fun _ => rfl⟩ hS2 ?_
   rotate_left
   ·intro W hW; obtain ⟨⟨g1, g2⟩, ⟨g3, g4⟩, g5, g6⟩ := hSof W hW; go_simp; (try with_reducible rfl)
   simp only [Act.put]
   refine wpAnyK_take (i := 5) (v := ?_) rfl rfl (by kernel_rfl) (by kernel_rfl) (by kernel_rfl) (fun _ _ _ h => h) ⟨.inl ⟨by rfl, ?_⟩, fun _ => rfl⟩ hS2 ?_
   rotate_left
   ·intro W hW; obtain ⟨⟨g1, g2⟩, ⟨g3, g4⟩, g5, g6⟩ := hSof W hW; go_simp; (try with_reducible rfl)
   simp only [Act.put]
   refine wpAnyK_take (i := 6) (v := ?_) rfl rfl (by kernel_rfl) (by kernel_rfl) (by kernel_rfl) (fun _ _ _ h => h) ⟨.inl ⟨by rfl, ?_⟩, fun _ => rfl⟩ hS2 ?_
   rotate_left
   ·intro W hW; obtain ⟨⟨g1, g2⟩, ⟨g3, g4⟩, g5, g6⟩ := hSof W hW; go_simp; (try with_reducible rfl)
   simp only [Act.put]
   refine wpAnyK_take (i := 7) (v := ?_) rfl rfl (by kernel_rfl) (by kernel_rfl) (by kernel_rfl) (fun _ _ _ h => h) ⟨.inl ⟨by rfl, ?_⟩, fun _ => rfl⟩ hS2 ?_
   rotate_left
   ·intro W hW; obtain ⟨⟨g1, g2⟩, ⟨g3, g4⟩, g5, g6⟩ := hSof W hW; go_simp; (try with_reducible rfl)
   simp only [Act.put]
   refine wpAnyK_take (i := 8) (v := ?_) rfl rfl (by kernel_rfl) (by kernel_rfl) (by kernel_rfl) (fun _ _ _ h => h) ⟨.inl ⟨by rfl, ?_⟩, fun _ => rfl⟩ hS2 ?_
   rotate_left
   ·intro W hW; obtain ⟨⟨g1, g2⟩, ⟨g3, g4⟩, g5, g6⟩ := hSof W hW; go_simp; (try with_reducible rfl)
   simp only [Act.put]
   refine wpAnyK_take (i := 9) (v := ?_) rfl rfl (by kernel_rfl) (by kernel_rfl) (by kernel_rfl) (fun _ _ _ h => h) ⟨.inl ⟨by rfl, ?_⟩, fun _ => rfl⟩ hS2 ?_
   rotate_left
   ·intro W hW; obtain ⟨⟨g1, g2⟩, ⟨g3, g4⟩, g5, g6⟩ := hSof W hW; go_simp; (try with_reducible rfl)
   simp only [Act.put]
   refine wpAnyK_take (i := 10) (v := ?_) rfl rfl (by kernel_rfl) (by kernel_rfl) (by kernel_rfl) (fun _ _ _ h => h) ⟨.inl ⟨by rfl, ?_⟩, fun _ => rfl⟩ hS2 ?_
   rotate_left
   ·intro W hW; obtain ⟨⟨g1, g2⟩, ⟨g3, g4⟩, g5, g6⟩ := hSof W hW; go_simp; (try with_reducible rfl)
   simp only [Act.put]
   refine wpAnyK_one (i := 4) (by kernel_rfl) rfl (fun K hK => ?_)
   go_simp
   refine ⟨trivial, CallsIn.mono (callsIn_wide.2 con2) ?_⟩
   rintro e w3 ⟨v3, rfl, hb3, hr3⟩
   obtain ⟨rfl, hq3, hq4⟩ := rep_pt hr3
   have J3 := hB _ k W2.drew w3 (hB _ k W2 W2.drew J2 (Below.refl _ _).drew) hb3
   have hS3 : S w3 := hSto w3 (hb3.block _ hn1) (hb3.block _ ha1) (((hJ _ k w3 J3).2.2 Bs (bo + 3) s3).trans c3') (((hJ _ k w3 J3).2.2 b2 (o2 + k) hs2).trans hd2')
   have hat3 := (hb3.block _ ha1).trans hat2
   simp only []
   refine hK.out _ _ hS3 ?_
   clear hK K
   refine wpAnyK_take (i := 11) (v := ?_) rfl rfl (by kernel_rfl) (by kernel_rfl) (by kernel_rfl) (fun _ _ _ h => h) ⟨.inl ⟨by rfl, ?_⟩, fun _ => rfl⟩ hS3 ?_
   rotate_left
   ·intro W hW; obtain ⟨⟨g1, g2⟩, ⟨g3, g4⟩, g5, g6⟩ := hSof W hW; go_simp; (try with_reducible rfl)
   simp only [Act.put]
   obtain ⟨fn2, tmps2, assign2, body2, hy, hR⟩ := hY _ k w3 J3 S0 _ (.agg #[.string ⟨(rt (Kk.dirK (p.t k)).1).toArray⟩, .string ⟨(rt (Kk.dirK (p.t k)).2).toArray⟩, .string ⟨(rt (upK (Kk.dirK (p.t k))).1).toArray⟩, .string ⟨(rt (upK (Kk.dirK (p.t k))).2).toArray⟩, .string ⟨(rt (p.at' k).1).toArray⟩, .string ⟨(rt (p.at' k).2).toArray⟩, .string ⟨(rt (p.l k)).toArray⟩]) (lst_at _ hlt) (Rep.agg (dmD (p.dm k)) [.string ⟨(rt (Kk.dirK (p.t k)).1).toArray⟩, .string ⟨(rt (Kk.dirK (p.t k)).2).toArray⟩, .string ⟨(rt (upK (Kk.dirK (p.t k))).1).toArray⟩, .string ⟨(rt (upK (Kk.dirK (p.t k))).2).toArray⟩, .string ⟨(rt (p.at' k).1).toArray⟩, .string ⟨(rt (p.at' k).2).toArray⟩, .string ⟨(rt (p.l k)).toArray⟩] rfl (by simp [dmD, D.one]) (Reps.cons (.str _ hq1) (Reps.cons (.str _ hq2) (Reps.cons (.str _ hq3) (Reps.cons (.str _ hq4) (Reps.cons (.str _ ht1) (Reps.cons (.str _ ht2) (Reps.cons (.str _ hm2) .nil))))))).2)
   refine wpAnyK_one (i := 12) (by kernel_rfl) rfl (fun K hK => ?_)
   go_simp
   refine hR.mono ?_
   rintro e W4 ⟨hB4, hcase⟩
   obtain ⟨bb, rfl, hbt, hbf, hcs⟩ : ∃ bb : Bool, e = .returned (.bool bb) ∧ (bb = true → J _ (k + 1) W4) ∧ (bb = false → Z W4) ∧ ∀ b j, S0 b j → W4.cell? ⟨b, j, none⟩ = W0.cell? ⟨b, j, none⟩ := by
    rcases hcase with ⟨rfl, h⟩ | ⟨rfl, h⟩
    ·exact ⟨true, rfl, fun _ => h, (fun h => by cases h), (hJ _ _ _ h).2.2⟩
    ·exact ⟨false, rfl, (fun h => by cases h), fun _ => h, hZc _ h⟩
   have b6 : W4.heap[w1.heap.size]? = W2.heap[w1.heap.size]? := (hB4 _ (.inr rfl)).trans (hb3.block _ hn1)
   have b3 : W4.heap[W0.heap.size]? = W2.heap[W0.heap.size]? := (hB4 _ (.inl hBat)).trans (hb3.block _ ha1)
   have hS4 : S W4 := hSto W4 b6 b3 ((hcs Bs (bo + 3) s3).trans c3') ((hcs b2 (o2 + k) hs2).trans hd2')
   have hat4 := b3.trans hat2
   simp only []
   refine hK.out _ _ hS4 ?_
   clear hK K hy hR
   refine wpAnyK_take (i := 13) (v := ?_) rfl rfl (by kernel_rfl) (by kernel_rfl) (by kernel_rfl) (fun _ _ _ h => h) ⟨.inl ⟨by rfl, ?_⟩, fun _ => rfl⟩ hS4 ?_
   rotate_left
   ·intro W hW; obtain ⟨⟨g1, g2⟩, ⟨g3, g4⟩, g5, g6⟩ := hSof W hW; go_simp; (try with_reducible rfl)
   simp only [Act.put]
   refine wpAnyK_done (by kernel_rfl) ?_ _
   have cl4 := cl W4 b6
   cases bb with
   | false =>
     gi_wp2
     refine bodyPost_ret (results_none rfl _ _ _) rfl ?_
     exact ⟨⟨_, rfl⟩, .inr (by simpa using hbf)⟩
   | true =>
     have J4 := hbt rfl
     gi_wp2
     generalize hSd : (fun W : World => W.cell? ⟨w1.heap.size, 0, none⟩ = some (.string ⟨(rt (Kk.dirK (p.t k)).1).toArray⟩) ∧ W.cell? ⟨w1.heap.size, 1, none⟩ = some (.string ⟨(rt (Kk.dirK (p.t k)).2).toArray⟩) ∧
      W.cell? ⟨Bs, bo + 3, none⟩ = some (.slice (some ⟨b2, o2, none⟩) p.n capd) ∧ W.cell? ⟨b2, o2 + k, none⟩ = some (.string ⟨(rt (p.l k)).toArray⟩)) = S'
     have hSof' : ∀ W, S' W → W.cell? ⟨w1.heap.size, 0, none⟩ = some (.string ⟨(rt (Kk.dirK (p.t k)).1).toArray⟩) ∧ W.cell? ⟨w1.heap.size, 1, none⟩ = some (.string ⟨(rt (Kk.dirK (p.t k)).2).toArray⟩) ∧
      W.cell? ⟨Bs, bo + 3, none⟩ = some (.slice (some ⟨b2, o2, none⟩) p.n capd) ∧ W.cell? ⟨b2, o2 + k, none⟩ = some (.string ⟨(rt (p.l k)).toArray⟩) := fun W h => by rw [← hSd] at h; exact h
     have hSto' : ∀ W : World, W.heap[w1.heap.size]? = W2.heap[w1.heap.size]? → W.cell? ⟨Bs, bo + 3, none⟩ = some (.slice (some ⟨b2, o2, none⟩) p.n capd) → W.cell? ⟨b2, o2 + k, none⟩ = some (.string ⟨(rt (p.l k)).toArray⟩) → S' W := fun W h1 h3 h4 => by rw [← hSd]; exact ⟨(cl W h1).1, (cl W h1).2, h3, h4⟩
     clear hSd
     have q5 := (hcs Bs (bo + 3) s3).trans c3'
     have q6 := (hcs b2 (o2 + k) hs2).trans hd2'
     have hS5 : S' W4.drew := hSto' _ b6 q5 q6
     obtain ⟨t3, t4⟩ := ct W4 b3
     obtain ⟨hL4, hsz4, _⟩ := hJ _ _ W4 J4
     have con3 := (Tryz.kplus (p.at' k) (Kk.dirK (p.t k)) (p.l k) ((hp.at' k hk).mono (by omega)) ((Sz.dirK (Nat.le_trans (hp.t k hlt) (Nat.le_refl 10))).mono (by omega)) (by have := hp.l k hlt; omega)).2 S0 W4.drew [.agg #[.string ⟨(rt (p.at' k).1).toArray⟩, .string ⟨(rt (p.at' k).2).toArray⟩], .agg #[.string ⟨(rt (Kk.dirK (p.t k)).1).toArray⟩, .string ⟨(rt (Kk.dirK (p.t k)).2).toArray⟩], .string ⟨(rt (p.l k)).toArray⟩] (fun b j h => Nat.lt_of_lt_of_le (hS0 b j h) hsz4) (Tryz.hL _ _ hL4 (Below.refl _ _).drew) (Reps.cons (pt_rep ht1 ht2) (Reps.cons (pt_rep hq1 hq2) (Reps.cons (.str _ hm2) .nil)))
     refine wpIn_region_heldK (S := S') (by kernel_rfl) ?_
     change wpAnyK _ _ _ _ _ _ _ _ _ _ (World.drew _)
     refine wpAnyK_take (i := 1) (v := ?_) rfl rfl (by kernel_rfl) (by kernel_rfl) (by kernel_rfl) (fun _ _ _ h => h) ⟨.inl ⟨by rfl, ?_⟩, fun _ => rfl⟩ hS5 ?_
     rotate_left
     ·intro W hW; obtain ⟨g1, g2, g5, g6⟩ := hSof' W hW; go_simp; (try with_reducible rfl)
     simp only [Act.put]
     refine wpAnyK_take (i := 2) (v := ?_) rfl rfl (by kernel_rfl) (by kernel_rfl) (by kernel_rfl) (fun _ _ _ h => h) ⟨.inl ⟨by rfl, ?_⟩, fun _ => rfl⟩ hS5 ?_
     rotate_left
     ·intro W hW; obtain ⟨g1, g2, g5, g6⟩ := hSof' W hW; go_simp; (try with_reducible rfl)
     simp only [Act.put]
     refine wpAnyK_take (i := 3) (v := ?_) rfl rfl (by kernel_rfl) (by kernel_rfl) (by kernel_rfl) (fun _ _ _ h => h) ⟨.inl ⟨by rfl, ?_⟩, fun _ => rfl⟩ hS5 ?_
     rotate_left
     ·intro W hW; obtain ⟨g1, g2, g5, g6⟩ := hSof' W hW; go_simp; (try with_reducible rfl)
     simp only [Act.put]
     refine wpAnyK_take (i := 4) (v := ?_) rfl rfl (by kernel_rfl) (by kernel_rfl) (by kernel_rfl) (fun _ _ _ h => h) ⟨.inl ⟨by rfl, ?_⟩, fun _ => rfl⟩ hS5 ?_
     rotate_left
     ·intro W hW; obtain ⟨g1, g2, g5, g6⟩ := hSof' W hW; go_simp; (try with_reducible rfl)
     simp only [Act.put]
     refine wpAnyK_take (i := 5) (v := ?_) rfl rfl (by kernel_rfl) (by kernel_rfl) (by kernel_rfl) (fun _ _ _ h => h) ⟨.inl ⟨by rfl, ?_⟩, fun _ => rfl⟩ hS5 ?_
     rotate_left
     ·intro W hW; obtain ⟨g1, g2, g5, g6⟩ := hSof' W hW; go_simp; (try with_reducible rfl)
     simp only [Act.put]
     refine wpAnyK_take (i := 6) (v := ?_) rfl rfl (by kernel_rfl) (by kernel_rfl) (by kernel_rfl) (fun _ _ _ h => h) ⟨.inl ⟨by rfl, ?_⟩, fun _ => rfl⟩ hS5 ?_
     rotate_left
     ·intro W hW; obtain ⟨g1, g2, g5, g6⟩ := hSof' W hW; go_simp; (try with_reducible rfl)
     simp only [Act.put]
     refine wpAnyK_one (i := 0) (by kernel_rfl) rfl (fun K hK => ?_)
     go_simp
     refine hK.out _ _ hS5 ?_
     clear hK K
     refine wpAnyK_one (i := 7) (by kernel_rfl) rfl (fun K hK => ?_)
     go_simp
     refine ⟨trivial, CallsIn.mono (callsIn_wide.2 con3) ?_⟩
     rintro e w5 ⟨v5, rfl, hb5, hr5⟩
     obtain ⟨rfl, hq5, hq6⟩ := rep_pt hr5
     have J5 := hB _ _ W4.drew w5 (hB _ _ W4 W4.drew J4 (Below.refl _ _).drew) hb5
     have hlt4 : ∀ x, (x < W2.heap.size → W4.heap[x]? = W2.heap[x]? → x < W4.heap.size) := fun x h1 h2 => by
      rw [Array.getElem?_eq_getElem h1] at h2
      exact (Array.getElem?_eq_some_iff.1 h2).1
     have r6 := (hb5.block _ (hlt4 _ hn1 b6)).trans b6
     have r3 := (hb5.block _ (hlt4 _ ha1 b3)).trans b3
     have hS6 : S' w5 := hSto' w5 r6 (((hJ _ _ w5 J5).2.2 Bs (bo + 3) s3).trans c3') (((hJ _ _ w5 J5).2.2 b2 (o2 + k) hs2).trans hd2')
     simp only []
     refine hK.out _ _ hS6 ?_
     clear hK K
     have r3' := r3.trans hat2
     have fz0 : w5.frozen? ⟨W0.heap.size, 0, none⟩ = false := by simp [World.frozen?, r3']
     have fz1 : w5.frozen? ⟨W0.heap.size, 1, none⟩ = false := by simp [World.frozen?, r3']
     obtain ⟨hT6, hat6⟩ := turn_set2 (.string ⟨(rt (p.at' (k + 1)).1).toArray⟩) (.string ⟨(rt (p.at' (k + 1)).2).toArray⟩) r3'
     have J6 := hT _ _ w5 _ _ J5 (.inl hBat) hT6
     have hne6 : w1.heap.size ≠ W0.heap.size := by
      have h1 := hb1.size
      have h2 := (Array.getElem?_eq_some_iff.1 hat).1
      omega
     refine wpAnyK_one (i := 8) (by kernel_rfl) rfl (fun K hK => ?_)
     go_simp
     refine hK.out _ _ ?_ ?_
     ·exact hSto' _ ((hT6.2.2.1 _ hne6).trans r6) (((hJ _ _ _ J6).2.2 Bs (bo + 3) s3).trans c3') (((hJ _ _ _ J6).2.2 b2 (o2 + k) hs2).trans hd2')
     clear hK K
     refine wpAnyK_done (by kernel_rfl) ?_ _
     generalize hW6 : ((w5.setCell ⟨W0.heap.size, 0, none⟩ (.string ⟨(rt (p.at' (k + 1)).1).toArray⟩)).setCell ⟨W0.heap.size, 1, none⟩ (.string ⟨(rt (p.at' (k + 1)).2).toArray⟩)) = W6 at *
     have hW6' : ((w5.setCell ⟨W0.heap.size, 0, none⟩ (.string ⟨(rt (pl (p.at' k) (Kk.dirK (p.t k)) (p.l k)).1).toArray⟩)).setCell ⟨W0.heap.size, 1, none⟩ (.string ⟨(rt (pl (p.at' k) (Kk.dirK (p.t k)) (p.l k)).2).toArray⟩)) = W6 := hW6
     rw [hW6']
     clear hW6 hW6'
     gi_wp2
     exact ⟨⟨k + 1, by omega, by congr 1, _, J6, .inl hBat, hat6⟩, by simp only [intOf]; omega⟩
  ·obtain rfl : k = p.n := by omega
   gi_wp2
   go_end0
   exact ⟨⟨_, rfl⟩, .inl ⟨B, by rw [lst_len]; exact hJB⟩⟩

end Go.Proofs

/- The pure readings of functions of this seat, printed by program (pcfile.py). Own work. -/
namespace Go.Proofs
open Go Go.Pi Go.RowKit
set_option maxRecDepth 100000

/-- klippe/kink.ends -/
def pc60 : PC := .seq (.reg [
 ⟨some 1, .bx 4 (.v 0), none⟩,
 ⟨some 2, .nil 52, none⟩] [1, 1000003])
 (.seq (.reg [
  ⟨some 3, .alG 52, none⟩] [1, 3, 1000003])
  (.seq (.reg [
   ⟨some 4, .alloc [.str [], .str [], .str [], .str [], .str [], .str [], .str []], none⟩] [1, 3, 4, 1000003])
   (.seq (.seq (.reg [
     ⟨some 8, .ld true 4 (.v 1), none⟩,
     ⟨some 9, .call 73 [.v 8], none⟩] [3, 4, 9, 1000003])
    (.blk 0 (.cus [5, 6, 7, 10, 11, 12, 13, 14, 15, 16, 17, 18, 19, 20, 21, 22, 23, 24, 25, 26, 27, 28, 29, 30, 31, 32, 33, 34, 35, 36, 37, 38, 39, 40, 41, 42, 43] (seqT (Con Tryz.prog Tryz.L) 115 sq115 9 10 11
     (.seq (.reg [
      ⟨some 5, .cp (.v 10), none⟩] [3, 4, 5, 9, 11, 1000003])
      (.reg [
       ⟨some 6, .alloc [.str [], .str [], .str [], .str [], .str [], .str [], .str []], none⟩,
       ⟨none, .st 7 (.v 6) (.v 11), none⟩] [3, 4, 5, 6, 9, 1000003]))
     (.blk 1 (.seq (.seq (.reg [
       ⟨some 12, .cp (.v 5), none⟩,
       ⟨some 13, .ci .eql (.v 12) (.k (.int .i64 0)), none⟩] [3, 4, 6, 9, 13, 1000003])
      (.cnd (.v 13) (.reg [
       ⟨some 14, .lg 3, none⟩,
       ⟨some 15, .fa 4 (.v 6), none⟩,
       ⟨some 16, .ld true 2 (.o 15 6), none⟩,
       ⟨some 17, .fa 2 (.v 6), none⟩,
       ⟨some 18, .ld true 2 (.o 17 6), none⟩,
       ⟨some 19, .bld [.str [], .str [], .str [], .str []] [(0, 2, .v 16), (2, 2, .v 18)], none⟩,
       ⟨some 20, .bldS 52 [.str [], .str [], .str [], .str []] 1 [(0, 4, .v 19)], none⟩,
       ⟨some 21, .app 52 4 64 (.o 14 1000003) (.v 20), none⟩,
       ⟨none, .sgO 3 (.v 21) [14], none⟩] [3, 4, 6, 9, 1000003])
       (.seq (.reg [
        ⟨some 22, .fa 2 (.v 4), none⟩,
        ⟨some 23, .ld true 2 (.o 22 4), none⟩,
        ⟨some 24, .fa 2 (.v 6), none⟩,
        ⟨some 25, .ld true 2 (.o 24 6), none⟩,
        ⟨some 26, .call 74 [.v 23, .v 25], none⟩,
        ⟨some 27, .call 23 [.k (.str [49]), .v 26], none⟩,
        ⟨some 28, .call 63 [.k (.str [49]), .v 27], none⟩,
        ⟨some 7, .cp (.v 28), none⟩] [3, 4, 6, 7, 9, 1000003])
        (.reg [
         ⟨some 29, .lg 3, none⟩,
         ⟨some 30, .fa 4 (.v 6), none⟩,
         ⟨some 31, .ld true 2 (.o 30 6), none⟩,
         ⟨some 32, .bld [.str [], .str []] [(0, 1, .k (.str [48])), (1, 1, .k (.str [48]))], none⟩,
         ⟨some 33, .fa 2 (.v 4), none⟩,
         ⟨some 34, .ld true 2 (.o 33 4), none⟩,
         ⟨some 35, .fa 2 (.v 6), none⟩,
         ⟨some 36, .ld true 2 (.o 35 6), none⟩,
         ⟨some 37, .call 83 [.v 34, .v 36, .k (.str [49])], none⟩,
         ⟨some 38, .cp (.v 7), none⟩,
         ⟨some 39, .call 83 [.v 32, .v 37, .v 38], none⟩,
         ⟨some 40, .bld [.str [], .str [], .str [], .str []] [(0, 2, .v 31), (2, 2, .v 39)], none⟩,
         ⟨some 41, .bldS 52 [.str [], .str [], .str [], .str []] 1 [(0, 4, .v 40)], none⟩,
         ⟨some 42, .app 52 4 64 (.o 29 1000003) (.v 41), none⟩,
         ⟨none, .sgO 3 (.v 42) [29], none⟩] [3, 4, 6, 9, 1000003]))))
      (.reg [
       ⟨some 43, .ld true 7 (.v 6), none⟩,
       ⟨none, .st 7 (.v 4) (.v 43), none⟩] [3, 4, 9, 1000003]))) [3, 4, 9, 1000003]))))
    (.seq (.reg [
     ⟨some 44, .lg 3, none⟩,
     ⟨some 45, .fa 4 (.v 4), none⟩,
     ⟨some 46, .ld true 2 (.o 45 4), none⟩,
     ⟨some 47, .fa 0 (.v 4), none⟩,
     ⟨some 48, .ld true 2 (.o 47 4), none⟩,
     ⟨some 49, .fa 6 (.v 4), none⟩,
     ⟨some 50, .ld false 1 (.o 49 4), none⟩,
     ⟨some 51, .call 83 [.v 46, .v 48, .v 50], none⟩,
     ⟨some 52, .fa 2 (.v 4), none⟩,
     ⟨some 53, .ld true 2 (.o 52 4), none⟩,
     ⟨some 54, .bld [.str [], .str [], .str [], .str []] [(0, 2, .v 51), (2, 2, .v 53)], none⟩,
     ⟨some 55, .bldS 52 [.str [], .str [], .str [], .str []] 1 [(0, 4, .v 54)], none⟩,
     ⟨some 56, .app 52 4 64 (.o 44 1000003) (.v 55), none⟩,
     ⟨some 2, .tk 56, none⟩] [2])
     (.ret)))))
def rs60 : List RV := [.t 2]
theorem chk60 : chkFnR Tryz.prog Tryz.f60 1 pc60 rs60 = true := by kernel_rfl
theorem rule60 {L : World → Prop} (hL : ∀ w w', L w → Below w.heap.size w w' → L w') (hbk : ∀ q ∈ pc60.backs, IsBack Tryz.prog q.1 q.2.1 q.2.2) (hcu : ∀ c, Tryz.f60.body = some c → ∀ q ∈ cusL c pc60, CusOk Tryz.prog L q.1 q.2.1 q.2.2) {ds : List D} {r : D} (hr0 : aliasOf r = none) (hlen : ds.length = 1) (hp : ds.all (fun d => (aliasOf d).isNone) = true)
  (h : wC (Con Tryz.prog L) pc60 (retQ rs60 r) (initE 0 ds)) : Con Tryz.prog L 60 ds r :=
 con_chkR hL Tryz.func60 chk60 hbk hcu hr0 hlen hp (wC_sound h)

/-- klippe/kink.growths -/
def pc62 : PC := .seq (.reg [
 ⟨some 1, .bx 4 (.v 0), none⟩,
 ⟨some 2, .nil 22, none⟩] [1, 1000003, 1000004])
 (.seq (.reg [
  ⟨some 7, .ld true 4 (.v 1), none⟩,
  ⟨some 8, .call 60 [.v 7], none⟩,
  ⟨some 3, .alG 52, none⟩,
  ⟨none, .sgO 3 (.v 8) [], none⟩] [1, 3, 1000003, 1000004])
  (.seq (.reg [
   ⟨some 4, .alG 22, none⟩] [1, 3, 4, 1000003, 1000004])
   (.seq (.seq (.reg [
     ⟨some 9, .ld true 4 (.v 1), none⟩,
     ⟨some 10, .call 73 [.v 9], none⟩] [3, 4, 10, 1000003, 1000004])
    (.blk 0 (.cus [5, 6, 11, 12, 13, 14, 15, 16, 17, 18, 19, 20, 21, 22, 23, 24, 25, 26, 27, 28, 29, 30] (seqT (Con Tryz.prog Tryz.L) 115 sq115 10 11 12
     (.seq (.reg [
      ⟨some 5, .cp (.v 11), none⟩] [3, 4, 5, 10, 12, 1000003, 1000004])
      (.reg [
       ⟨some 6, .alloc [.str [], .str [], .str [], .str [], .str [], .str [], .str []], none⟩,
       ⟨none, .st 7 (.v 6) (.v 12), none⟩] [3, 4, 5, 6, 10, 1000003, 1000004]))
     (.blk 1 (.reg [
      ⟨some 13, .lg 4, none⟩,
      ⟨some 14, .fa 0 (.v 6), none⟩,
      ⟨some 15, .ld true 2 (.o 14 6), none⟩,
      ⟨some 16, .lg 3, none⟩,
      ⟨some 17, .cp (.v 5), none⟩,
      ⟨some 18, .ari .add .i64 (.v 17) (.k (.int .i64 1)), none⟩,
      ⟨some 19, .ia 4 (.o 16 1000003) (.v 18), none⟩,
      ⟨some 20, .fa 2 (.o 19 1000003), none⟩,
      ⟨some 21, .ld true 2 (.o 20 1000003), none⟩,
      ⟨some 22, .lg 3, none⟩,
      ⟨some 23, .cp (.v 5), none⟩,
      ⟨some 24, .ia 4 (.o 22 1000003) (.v 23), none⟩,
      ⟨some 25, .fa 2 (.o 24 1000003), none⟩,
      ⟨some 26, .ld true 2 (.o 25 1000003), none⟩,
      ⟨some 27, .call 75 [.v 21, .v 26], none⟩,
      ⟨some 28, .call 74 [.v 15, .v 27], none⟩,
      ⟨some 29, .bldS 22 [.str []] 1 [(0, 1, .v 28)], none⟩,
      ⟨some 30, .app 22 1 16 (.o 13 1000004) (.v 29), none⟩,
      ⟨none, .sgO 4 (.v 30) [13], none⟩] [3, 4, 10, 1000003, 1000004])) [3, 4, 10, 1000003, 1000004]))))
    (.seq (.reg [
     ⟨some 31, .lg 4, none⟩,
     ⟨some 2, .sh (.o 31 1000004), none⟩] [2])
     (.ret)))))
def rs62 : List RV := [.t 2]
theorem chk62 : chkFnR Tryz.prog Tryz.f62 1 pc62 rs62 = true := by kernel_rfl
theorem rule62 {L : World → Prop} (hL : ∀ w w', L w → Below w.heap.size w w' → L w') (hbk : ∀ q ∈ pc62.backs, IsBack Tryz.prog q.1 q.2.1 q.2.2) (hcu : ∀ c, Tryz.f62.body = some c → ∀ q ∈ cusL c pc62, CusOk Tryz.prog L q.1 q.2.1 q.2.2) {ds : List D} {r : D} (hr0 : aliasOf r = none) (hlen : ds.length = 1) (hp : ds.all (fun d => (aliasOf d).isNone) = true)
  (h : wC (Con Tryz.prog L) pc62 (retQ rs62 r) (initE 0 ds)) : Con Tryz.prog L 62 ds r :=
 con_chkR hL Tryz.func62 chk62 hbk hcu hr0 hlen hp (wC_sound h)

/-- klippe/kink.Fold -/
def pc34 : PC := .seq (.reg [
 ⟨some 2, .bx 4 (.v 0), none⟩,
 ⟨some 3, .bx 2 (.v 1), none⟩,
 ⟨some 4, .alloc [.str [], .str []], none⟩,
 ⟨some 5, .alloc [.int .i64 0], none⟩] [2, 3, 4, 5, 1000009, 1000010])
 (.seq (.seq (.reg [
   ⟨some 13, .ld true 4 (.v 2), none⟩,
   ⟨some 14, .call 42 [.v 13], none⟩,
   ⟨some 6, .cp (.v 14), none⟩] [2, 3, 4, 5, 6, 1000009, 1000010])
  (.seq (.reg [
   ⟨some 15, .cp (.v 6), none⟩,
   ⟨some 16, .ci .neq (.v 15) (.k (.int .i64 0)), none⟩] [2, 3, 4, 5, 6, 16, 1000009, 1000010])
   (.cnd (.v 16) (.seq (.reg [
     ⟨some 17, .bld [.str [], .str []] [], none⟩,
     ⟨some 18, .cp (.v 6), none⟩,
     ⟨none, .st 2 (.v 4) (.v 17), none⟩,
     ⟨none, .st 1 (.v 5) (.v 18), none⟩] [4, 5])
    (.ret))
    (.skip))))
  (.seq (.seq (.reg [
    ⟨some 19, .ld true 2 (.v 3), none⟩,
    ⟨some 20, .call 61 [.v 19], none⟩,
    ⟨some 7, .cp (.v 20), none⟩] [2, 3, 4, 5, 7, 1000009, 1000010])
   (.seq (.reg [
    ⟨some 21, .cp (.v 7), none⟩,
    ⟨some 22, .ci .neq (.v 21) (.k (.int .i64 0)), none⟩] [2, 3, 4, 5, 7, 22, 1000009, 1000010])
    (.cnd (.v 22) (.seq (.reg [
      ⟨some 23, .bld [.str [], .str []] [], none⟩,
      ⟨some 24, .cp (.v 7), none⟩,
      ⟨none, .st 2 (.v 4) (.v 23), none⟩,
      ⟨none, .st 1 (.v 5) (.v 24), none⟩] [4, 5])
     (.ret))
     (.skip))))
   (.seq (.seq (.reg [
     ⟨some 25, .ld true 4 (.v 2), none⟩,
     ⟨some 26, .fa 1 (.v 3), none⟩,
     ⟨some 27, .ld false 1 (.o 26 3), none⟩,
     ⟨some 28, .call 76 [.v 25, .v 27], none⟩,
     ⟨some 29, .not (.v 28), none⟩] [2, 3, 4, 5, 29, 1000009, 1000010])
    (.cnd (.v 29) (.seq (.reg [
      ⟨some 30, .bld [.str [], .str []] [], none⟩,
      ⟨none, .st 2 (.v 4) (.v 30), none⟩,
      ⟨none, .st 1 (.v 5) (.k (.int .i64 3)), none⟩] [4, 5])
     (.ret))
     (.skip)))
    (.seq (.reg [
     ⟨some 31, .fa 0 (.v 3), none⟩,
     ⟨some 32, .ld false 1 (.o 31 3), none⟩,
     ⟨some 8, .alloc [.str []], none⟩,
     ⟨none, .st 1 (.v 8) (.v 32), none⟩] [2, 3, 4, 5, 8, 1000009, 1000010])
     (.seq (.seq (.reg [
       ⟨some 33, .ld false 1 (.v 8), none⟩,
       ⟨some 34, .call 35 [.v 33], none⟩,
       ⟨some 35, .ci .lss (.v 34) (.k (.int .i64 0)), none⟩] [2, 3, 4, 5, 8, 35, 1000009, 1000010])
      (.cnd (.v 35) (.seq (.reg [
        ⟨some 36, .bld [.str [], .str []] [], none⟩,
        ⟨none, .st 2 (.v 4) (.v 36), none⟩,
        ⟨none, .st 1 (.v 5) (.k (.int .i64 28)), none⟩] [4, 5])
       (.ret))
       (.skip)))
      (.seq (.reg [
       ⟨some 37, .ld true 4 (.v 2), none⟩,
       ⟨some 38, .fa 1 (.v 3), none⟩,
       ⟨some 39, .ld false 1 (.o 38 3), none⟩,
       ⟨some 40, .call 77 [.v 37, .v 39], none⟩,
       ⟨some 9, .alG 25, none⟩,
       ⟨none, .sgO 9 (.v 40) [], none⟩] [2, 3, 4, 5, 8, 9, 1000009, 1000010])
       (.seq (.reg [
        ⟨some 41, .ld true 4 (.v 2), none⟩,
        ⟨some 42, .fa 1 (.v 3), none⟩,
        ⟨some 43, .ld false 1 (.o 42 3), none⟩,
        ⟨some 44, .call 78 [.v 41, .v 43], none⟩,
        ⟨some 10, .alG 22, none⟩,
        ⟨none, .sgO 10 (.v 44) [], none⟩] [2, 4, 5, 8, 9, 10, 1000009, 1000010])
        (.seq (.seq (.reg [
          ⟨some 45, .ld true 4 (.v 2), none⟩,
          ⟨some 46, .call 73 [.v 45], none⟩] [4, 5, 8, 9, 10, 46, 1000009, 1000010])
         (.blk 0 (.cus [11, 12, 47, 48, 49, 50, 51, 52, 53, 54, 55, 56, 57, 58, 59, 60, 61, 62, 63, 64, 65, 66, 67, 68, 69, 70, 71, 72] (seqT (Con Tryz.prog Tryz.L) 115 sq115 46 47 48
          (.seq (.reg [
           ⟨some 11, .cp (.v 47), none⟩] [4, 5, 8, 9, 10, 11, 46, 48, 1000009, 1000010])
           (.reg [
            ⟨some 12, .alloc [.str [], .str [], .str [], .str [], .str [], .str [], .str []], none⟩,
            ⟨none, .st 7 (.v 12) (.v 48), none⟩] [4, 5, 8, 9, 10, 11, 12, 46, 1000009, 1000010]))
          (.blk 1 (.seq (.seq (.reg [
            ⟨some 49, .ld false 1 (.v 8), none⟩,
            ⟨some 50, .lg 10, none⟩,
            ⟨some 51, .cp (.v 11), none⟩,
            ⟨some 52, .ia 1 (.o 50 1000010) (.v 51), none⟩,
            ⟨some 53, .ld false 1 (.o 52 1000010), none⟩,
            ⟨some 54, .call 36 [.v 49, .v 53], none⟩,
            ⟨some 55, .ci .leq (.v 54) (.k (.int .i64 0)), none⟩] [4, 5, 8, 9, 10, 11, 12, 46, 55, 1000009, 1000010])
           (.cnd (.v 55) (.seq (.reg [
             ⟨some 56, .lg 9, none⟩,
             ⟨some 57, .cp (.v 11), none⟩,
             ⟨some 58, .ia 2 (.o 56 1000009) (.v 57), none⟩,
             ⟨some 59, .ld true 2 (.o 58 1000009), none⟩,
             ⟨some 60, .fa 0 (.v 12), none⟩,
             ⟨some 61, .ld true 2 (.o 60 12), none⟩,
             ⟨some 62, .ld false 1 (.v 8), none⟩,
             ⟨some 63, .call 83 [.v 59, .v 61, .v 62], none⟩,
             ⟨some 64, .call 55 [.v 63], none⟩,
             ⟨some 65, .ext 64 0, none⟩,
             ⟨some 66, .ext 64 1, none⟩,
             ⟨none, .st 2 (.v 4) (.v 65), none⟩,
             ⟨none, .st 1 (.v 5) (.v 66), none⟩] [4, 5])
            (.ret))
            (.skip)))
           (.reg [
            ⟨some 67, .ld false 1 (.v 8), none⟩,
            ⟨some 68, .lg 10, none⟩,
            ⟨some 69, .cp (.v 11), none⟩,
            ⟨some 70, .ia 1 (.o 68 1000010) (.v 69), none⟩,
            ⟨some 71, .ld false 1 (.o 70 1000010), none⟩,
            ⟨some 72, .call 30 [.v 67, .v 71], none⟩,
            ⟨none, .st 1 (.v 8) (.v 72), none⟩] [4, 5, 8, 9, 10, 46, 1000009, 1000010]))) [4, 5, 8, 9, 10, 46, 1000009, 1000010]))))
         (.seq (.reg [
          ⟨some 73, .bld [.str [], .str []] [], none⟩,
          ⟨none, .st 2 (.v 4) (.v 73), none⟩,
          ⟨none, .st 1 (.v 5) (.k (.int .i64 28)), none⟩] [4, 5])
          (.ret))))))))))
def rs34 : List RV := [.c 4 true 2, .c 5 false 1]
/-- klippe/kink.Unfold -/
def pc24 : PC := .seq (.reg [
 ⟨some 2, .bx 4 (.v 0), none⟩,
 ⟨some 3, .bx 2 (.v 1), none⟩,
 ⟨some 4, .alloc [.str [], .str []], none⟩,
 ⟨some 5, .alloc [.bool false], none⟩,
 ⟨some 6, .alloc [.int .i64 0], none⟩] [2, 3, 4, 5, 6])
 (.seq (.seq (.reg [
   ⟨some 16, .ld true 4 (.v 2), none⟩,
   ⟨some 17, .call 42 [.v 16], none⟩,
   ⟨some 7, .cp (.v 17), none⟩] [2, 3, 4, 5, 6, 7])
  (.seq (.reg [
   ⟨some 18, .cp (.v 7), none⟩,
   ⟨some 19, .ci .neq (.v 18) (.k (.int .i64 0)), none⟩] [2, 3, 4, 5, 6, 7, 19])
   (.cnd (.v 19) (.seq (.reg [
     ⟨some 20, .bld [.str [], .str []] [], none⟩,
     ⟨some 21, .cp (.v 7), none⟩,
     ⟨none, .st 2 (.v 4) (.v 20), none⟩,
     ⟨none, .st 1 (.v 5) (.k (.bool false)), none⟩,
     ⟨none, .st 1 (.v 6) (.v 21), none⟩] [4, 5, 6])
    (.ret))
    (.skip))))
  (.seq (.seq (.reg [
    ⟨some 22, .ld true 2 (.v 3), none⟩,
    ⟨some 23, .call 61 [.v 22], none⟩,
    ⟨some 8, .cp (.v 23), none⟩] [2, 3, 4, 5, 6, 8])
   (.seq (.reg [
    ⟨some 24, .cp (.v 8), none⟩,
    ⟨some 25, .ci .neq (.v 24) (.k (.int .i64 0)), none⟩] [2, 3, 4, 5, 6, 8, 25])
    (.cnd (.v 25) (.seq (.reg [
      ⟨some 26, .bld [.str [], .str []] [], none⟩,
      ⟨some 27, .cp (.v 8), none⟩,
      ⟨none, .st 2 (.v 4) (.v 26), none⟩,
      ⟨none, .st 1 (.v 5) (.k (.bool false)), none⟩,
      ⟨none, .st 1 (.v 6) (.v 27), none⟩] [4, 5, 6])
     (.ret))
     (.skip))))
   (.seq (.seq (.reg [
     ⟨some 28, .ld true 4 (.v 2), none⟩,
     ⟨some 29, .call 73 [.v 28], none⟩] [2, 3, 4, 5, 6, 29])
    (.blk 0 (.cus [9, 10, 11, 12, 13, 14, 15, 30, 31, 32, 33, 34, 35, 36, 37, 38, 39, 40, 41, 42, 43, 44, 45, 46, 47, 48, 49, 50, 51, 52, 53, 54, 55, 56, 57, 58, 59, 60, 61, 62, 63, 64, 65, 66, 67, 68, 69, 70, 71, 72, 73, 74, 75, 76, 77, 78, 79, 80, 81, 82, 83, 84] (seqT (Con Tryz.prog Tryz.L) 115 sq115 29 30 31
     (.seq (.reg [
      ⟨some 9, .cp (.v 30), none⟩] [2, 3, 4, 5, 6, 9, 29, 31])
      (.reg [
       ⟨some 10, .alloc [.str [], .str [], .str [], .str [], .str [], .str [], .str []], none⟩,
       ⟨none, .st 7 (.v 10) (.v 31), none⟩] [2, 3, 4, 5, 6, 9, 10, 29]))
     (.blk 1 (.seq (.reg [
       ⟨some 32, .fa 2 (.v 10), none⟩,
       ⟨some 33, .ld true 2 (.o 32 10), none⟩,
       ⟨some 34, .ld true 2 (.v 3), none⟩,
       ⟨some 35, .fa 4 (.v 10), none⟩,
       ⟨some 36, .ld true 2 (.o 35 10), none⟩,
       ⟨some 37, .call 75 [.v 34, .v 36], none⟩,
       ⟨some 38, .call 74 [.v 33, .v 37], none⟩,
       ⟨some 11, .cp (.v 38), none⟩] [2, 3, 4, 5, 6, 9, 10, 11, 29])
      (.seq (.seq (.reg [
        ⟨some 39, .ld true 4 (.v 2), none⟩,
        ⟨some 40, .cp (.v 11), none⟩,
        ⟨some 41, .call 76 [.v 39, .v 40], none⟩,
        ⟨some 42, .not (.v 41), none⟩] [2, 3, 4, 5, 6, 9, 10, 11, 29, 42])
       (.cnd (.v 42) (.exit 1)
        (.skip)))
       (.seq (.reg [
        ⟨some 43, .fa 0 (.v 10), none⟩,
        ⟨some 44, .ld true 2 (.o 43 10), none⟩,
        ⟨some 45, .ld true 2 (.v 3), none⟩,
        ⟨some 46, .ld true 4 (.v 2), none⟩,
        ⟨some 47, .cp (.v 11), none⟩,
        ⟨some 48, .call 77 [.v 46, .v 47], none⟩,
        ⟨some 49, .cp (.v 9), none⟩,
        ⟨some 50, .ia 2 (.v 48) (.v 49), none⟩,
        ⟨some 51, .ld true 2 (.o 50 48), none⟩,
        ⟨some 52, .call 75 [.v 45, .v 51], none⟩,
        ⟨some 53, .call 74 [.v 44, .v 52], none⟩,
        ⟨some 12, .cp (.v 53), none⟩] [2, 3, 4, 5, 6, 9, 11, 12, 29])
        (.seq (.reg [
         ⟨some 54, .ld true 4 (.v 2), none⟩,
         ⟨some 55, .cp (.v 11), none⟩,
         ⟨some 56, .call 78 [.v 54, .v 55], none⟩,
         ⟨some 13, .tk 56, none⟩] [2, 3, 4, 5, 6, 9, 11, 12, 13, 29])
         (.seq (.seq (.reg [
           ⟨some 57, .cp (.v 12), none⟩,
           ⟨some 58, .call 35 [.v 57], none⟩,
           ⟨some 59, .ci .lss (.v 58) (.k (.int .i64 0)), none⟩,
           ⟨some 60, .cp (.v 59), none⟩,
           ⟨some 61, .cp (.v 12), (some (60, false))⟩,
           ⟨some 62, .mv (.v 13), (some (60, false))⟩,
           ⟨some 63, .cp (.v 9), (some (60, false))⟩,
           ⟨some 64, .ia 1 (.o 62 13) (.v 63), (some (60, false))⟩,
           ⟨some 65, .ld false 1 (.o 64 13), (some (60, false))⟩,
           ⟨some 66, .call 36 [.v 61, .v 65], (some (60, false))⟩,
           ⟨some 67, .ci .gtr (.v 66) (.k (.int .i64 0)), (some (60, false))⟩,
           ⟨some 68, .pick (.v 60) (.k (.bool true)) (.v 67), none⟩] [2, 3, 4, 5, 6, 9, 11, 12, 13, 29, 68])
          (.cnd (.v 68) (.exit 1)
           (.skip)))
          (.seq (.reg [
           ⟨some 70, .tk 13, none⟩,
           ⟨some 71, .cp (.v 9), none⟩,
           ⟨some 72, .slc 1 (.v 70) none (some (.v 71)), none⟩,
           ⟨some 73, .call 79 [.v 72], none⟩,
           ⟨some 74, .cp (.v 12), none⟩,
           ⟨some 75, .call 23 [.v 73, .v 74], none⟩,
           ⟨some 76, .cp (.v 11), none⟩,
           ⟨some 77, .bld [.str [], .str []] [(0, 1, .v 75), (1, 1, .v 76)], none⟩,
           ⟨some 78, .call 55 [.v 77], none⟩,
           ⟨some 69, .cp (.v 78), none⟩,
           ⟨some 79, .ext 69 0, none⟩,
           ⟨some 80, .ext 69 1, none⟩,
           ⟨some 14, .alloc [.str [], .str []], none⟩,
           ⟨none, .st 2 (.v 14) (.v 79), none⟩,
           ⟨some 15, .cp (.v 80), none⟩] [4, 5, 6, 14, 15])
           (.seq (.reg [
            ⟨some 81, .ld true 2 (.v 14), none⟩,
            ⟨some 82, .cp (.v 15), none⟩,
            ⟨some 83, .ci .eql (.v 82) (.k (.int .i64 0)), none⟩,
            ⟨some 84, .cp (.v 15), none⟩,
            ⟨none, .st 2 (.v 4) (.v 81), none⟩,
            ⟨none, .st 1 (.v 5) (.v 83), none⟩,
            ⟨none, .st 1 (.v 6) (.v 84), none⟩] [4, 5, 6])
            (.ret))))))))) [2, 3, 4, 5, 6, 29]))))
    (.seq (.reg [
     ⟨some 85, .bld [.str [], .str []] [], none⟩,
     ⟨none, .st 2 (.v 4) (.v 85), none⟩,
     ⟨none, .st 1 (.v 5) (.k (.bool false)), none⟩,
     ⟨none, .st 1 (.v 6) (.k (.int .i64 0)), none⟩] [4, 5, 6])
     (.ret)))))
def rs24 : List RV := [.c 4 true 2, .c 5 false 1, .c 6 false 1]
theorem chk24 : chkFnR Tryz.prog Tryz.f24 2 pc24 rs24 = true := by kernel_rfl
theorem rule24 {L : World → Prop} (hL : ∀ w w', L w → Below w.heap.size w w' → L w') (hbk : ∀ q ∈ pc24.backs, IsBack Tryz.prog q.1 q.2.1 q.2.2) (hcu : ∀ c, Tryz.f24.body = some c → ∀ q ∈ cusL c pc24, CusOk Tryz.prog L q.1 q.2.1 q.2.2) {ds : List D} {r : D} (hr0 : aliasOf r = none) (hlen : ds.length = 2) (hp : ds.all (fun d => (aliasOf d).isNone) = true)
  (h : wC (Con Tryz.prog L) pc24 (retQ rs24 r) (initE 0 ds)) : Con Tryz.prog L 24 ds r :=
 con_chkR hL Tryz.func24 chk24 hbk hcu hr0 hlen hp (wC_sound h)

end Go.Proofs

/-
 KINK: the ends of the domains, and how their lengths change. Own work.
-/
namespace Go.Proofs
open Go Go.Pi Go.RowKit Go.Ar Go.Ge Go.Kk

def axD (x : Pt × Pt) : List D := [.str (rt x.1.1), .str (rt x.1.2), .str (rt x.2.1), .str (rt x.2.2)]
def axs (p : Pf) (m : Nat) : List D := rows axD (lst m fun k => (p.at' k, p.ax k))
theorem axD_len (x : Pt × Pt) : (axD x).length = 4 := rfl
theorem axs_len (p : Pf) (m : Nat) : (axs p m).length = m * 4 := by unfold axs; rw [rows_length axD_len, lst_len]
theorem axs_succ (p : Pf) (m : Nat) : axs p (m + 1) = axs p m ++ axD (p.at' m, p.ax m) := by unfold axs; rw [lst_succ, rows_snoc]
theorem lst_some {α : Type} {n k : Nat} {f : Nat → α} {d : α} (h : (lst n f)[k]? = some d) : k < n ∧ d = f k := by
 have hk : k < n := by have := (List.getElem?_eq_some_iff.1 h).1; rw [lst_len] at this; exact this
 rw [lst_at f hk] at h
 exact ⟨hk, by cases h; rfl⟩

theorem Tryz.cuEnds : ∀ c, Tryz.f60.body = some c → ∀ q ∈ cusL c pc60, CusOk Tryz.prog Tryz.L q.1 q.2.1 q.2.2 := by
 intro c hc q hq
 cases Option.some.inj hc
 simp only [pc60, cusL, List.nil_append, List.append_nil, List.mem_singleton, List.cons_append] at hq
 subst hq
 exact seqT_ok Tryz.hL Tryz.seqDom (by kernel_rfl)
theorem Tryz.cuGrow : ∀ c, Tryz.f62.body = some c → ∀ q ∈ cusL c pc62, CusOk Tryz.prog Tryz.L q.1 q.2.1 q.2.2 := by
 intro c hc q hq
 cases Option.some.inj hc
 simp only [pc62, cusL, List.nil_append, List.append_nil, List.mem_singleton, List.cons_append] at hq
 subst hq
 exact seqT_ok Tryz.hL Tryz.seqDom (by kernel_rfl)

theorem ldC_axs {p : Pf} {m j t : Nat} {N : EP} {E : Env} (h : j < m) : ldC true 2 (List.drop (j * 4 + 2) (axs p m)) t N E = N (st1 E t (ptD (p.ax j))) := by
 obtain ⟨r, e⟩ := rows_at axD_len (lst_at (fun k => (p.at' k, p.ax k)) h)
 rw [← List.drop_drop]
 unfold axs
 rw [e, ldC_agg]
 simp [axD, ptD]

def lastD (p : Pf) : Nat → List D
 | 0 => [.str [], .str [], .str [], .str [], .str [], .str [], .str []]
 | k + 1 => dmD (p.dm k)

theorem rt0' : rt (0 : Rat) = [48] := by decide +kernel
theorem PSz.dir {p : Pf} (hp : PSz p) {k : Nat} (hk : k < p.n) : Sz 44 (dirK (p.t k)) := (Sz.dirK (hp.t k hk)).mono (by omega)
theorem PSz.nrm {p : Pf} (hp : PSz p) {k : Nat} (hk : k < p.n) : Sz 44 (nrm (p.t k)) := (hp.dir hk).up
theorem PSz.ne {p : Pf} (hp : PSz p) {k m : Nat} (hk : k < p.n) (hm : m < p.n) : 1 + p.t k * p.t m ≠ 0 := ne_tan ⟨(hp.ok k hk).1, (hp.ok k hk).2.1⟩ ⟨(hp.ok m hm).1, (hp.ok m hm).2.1⟩

set_option maxHeartbeats 8000000 in
theorem Tryz.kends (p : Pf) (hp : PSz p) : Con Tryz.prog Tryz.L 60 [.agg (pfD p)] (.own true 52 (p.n + 1) (axs p (p.n + 1))) := by
 have cd := Tryz.cdomains (L := Tryz.L) p
 refine rule60 Tryz.hL (fun q hq => by simp [PC.backs, pc60] at hq) Tryz.cuEnds rfl rfl rfl ?_
 simp only [pfD] at cd
 simp only [pfD, pc60, rs60, oU, oC, evX, evY, evZ, forall_const, implies_true, initE, stepF, D.clean, mvF, moF, tkF, shF, ariF, ciF, catF, scF, ebF, eqF, eqOk, eqPr, enF, notF, ngF, cvF, csF, csbF, lenF, lenSF, ixF, iaF, PX.slot, iaAF, faF, ldF, D.mem, stF, bxF, mkSF, boundF, fldF, ixAF, mmF2, D.plain, D.isPure, optAll, D.dull, callVF, splice, D.cells, D.one, sets, resT, D.flat, D.flat0, D.simple, Nat.reduceBNe, Nat.reduceLT, reduceIte, Nat.reduceEqDiff, Nat.reduceAdd, Nat.reduceMul, Nat.reduceSub, Nat.reduceLeDiff, Int.reduceToNat, Int.reduceLT, Int.reduceLE, Int.reduceEq, Int.reduceNeg, Int.reduceSub, Int.reduceAdd, Int.reduceMul, stG_own]
 refine callF_of cd ?_
 (refine ev ?_; try exact ⟨⟩)
 refine seqT_of (lst p.n fun k => .agg (dmD (p.dm k))) (fun k E1 => E1 = [(3, .gbox 1000003), (4, .box true (lastD p k)), (9, .clo 115 [.pt (pfD p)]), (1000003, .own true 52 k (axs p k))]) rfl ⟨p, rfl, hp, rfl⟩ rfl ?_ ?_ ?_
 ·rintro k E1 rfl; rfl
 ·rintro E1 rfl
  rw [lst_len]
  obtain ⟨m, hm⟩ : ∃ m, p.n = m + 1 := ⟨p.n - 1, by have := hp.n0; omega⟩
  have hn4 := hp.n
  have c := Tryz.kplus (p.at' m) (dirK (p.t m)) (p.l m) ((hp.at' m (by omega)).mono (by omega)) ((hp.dir (by omega)).mono (by omega)) (by have := hp.l m (by omega); omega)
  have hl := axs_len p (m + 1)
  have hz := axs_succ p (m + 1)
  have ha : p.ax (m + 1) = nrm (p.t m) := by unfold Pf.ax; rw [if_neg (by omega), if_pos hm.symm]; rfl
  rw [hm]
  rw [hz, ha]
  simp only [ptD] at c
  simp only [lastD, dmD, Pf.dm, evX, evY, evZ, forall_const, implies_true, initE, stepF, D.clean, mvF, moF, tkF, shF, ariF, ciF, catF, scF, ebF, eqF, eqOk, eqPr, enF, notF, ngF, cvF, csF, csbF, lenF, lenSF, ixF, iaF, PX.slot, iaAF, faF, ldF, D.mem, stF, bxF, mkSF, boundF, fldF, ixAF, mmF2, D.plain, D.isPure, optAll, D.dull, callVF, splice, D.cells, D.one, sets, resT, D.flat, D.flat0, D.simple, Nat.reduceBNe, Nat.reduceLT, reduceIte, Nat.reduceEqDiff, Nat.reduceAdd, Nat.reduceMul, Nat.reduceSub, Nat.reduceLeDiff, Int.reduceToNat, Int.reduceLT, Int.reduceLE, Int.reduceEq, Int.reduceNeg, Int.reduceSub, Int.reduceAdd, Int.reduceMul, stG_own]
  refine callF_of c ?_
  (refine ev ?_; try exact ⟨⟩)
  exact ⟨by omega, by omega, rfl⟩
 ·rintro k E1 d hd rfl
  obtain ⟨hk, rfl⟩ := lst_some hd
  refine ⟨rfl, ?_⟩
  have hn4 := hp.n
  have hl := axs_len p k
  cases k with
  | zero =>
    simp only [lastD, dmD, Pf.dm, evX, evY, evZ, forall_const, implies_true, initE, stepF, D.clean, mvF, moF, tkF, shF, ariF, ciF, catF, scF, ebF, eqF, eqOk, eqPr, enF, notF, ngF, cvF, csF, csbF, lenF, lenSF, ixF, iaF, PX.slot, iaAF, faF, ldF, D.mem, stF, bxF, mkSF, boundF, fldF, ixAF, mmF2, D.plain, D.isPure, optAll, D.dull, callVF, splice, D.cells, D.one, sets, resT, D.flat, D.flat0, D.simple, Nat.reduceBNe, Nat.reduceLT, reduceIte, Nat.reduceEqDiff, Nat.reduceAdd, Nat.reduceMul, Nat.reduceSub, Nat.reduceLeDiff, Int.reduceToNat, Int.reduceLT, Int.reduceLE, Int.reduceEq, Int.reduceNeg, Int.reduceSub, Int.reduceAdd, Int.reduceMul, stG_own, asgQ_nrm]
    refine ⟨fun _ => ?_, fun h => absurd rfl h⟩
    simp only [evX, evY, evZ, forall_const, implies_true, initE, stepF, D.clean, mvF, moF, tkF, shF, ariF, ciF, catF, scF, ebF, eqF, eqOk, eqPr, enF, notF, ngF, cvF, csF, csbF, lenF, lenSF, ixF, iaF, PX.slot, iaAF, faF, ldF, D.mem, stF, bxF, mkSF, boundF, fldF, ixAF, mmF2, D.plain, D.isPure, optAll, D.dull, callVF, splice, D.cells, D.one, sets, resT, D.flat, D.flat0, D.simple, Nat.reduceBNe, Nat.reduceLT, reduceIte, Nat.reduceEqDiff, Nat.reduceAdd, Nat.reduceMul, Nat.reduceSub, Nat.reduceLeDiff, Int.reduceToNat, Int.reduceLT, Int.reduceLE, Int.reduceEq, Int.reduceNeg, Int.reduceSub, Int.reduceAdd, Int.reduceMul, stG_own, bodQ_nrm]
    rw [axs_succ]; rfl
  | succ k =>
    have s1 := hp.nrm (show k < p.n by omega)
    have s2 := hp.nrm hk
    have hd1 := rd_dt s1 s2
    have hd2 := rd_add 1 (dt (nrm (p.t k)) (nrm (p.t (k + 1))))
    have hd3 := rd_div 1 (1 + dt (nrm (p.t k)) (nrm (p.t (k + 1))))
    rw [rd_one1] at hd2 hd3
    have hne := (dot_nn (hp.ne (show k < p.n by omega) hk)).1
    have c1 := Tryz.kdot _ _ (s1.mono (by omega)) (s2.mono (by omega))
    have c2 := Tryz.radd 1 (dt (nrm (p.t k)) (nrm (p.t (k + 1)))) (by rw [rd_one1]; omega) (by omega)
    have c3 := Tryz.kquo 1 (1 + dt (nrm (p.t k)) (nrm (p.t (k + 1)))) (by rw [rd_one1]; omega) (by omega) hne
    have c4 := Tryz.kplus _ _ 1 (s1.mono (by omega)) (s2.mono (by omega)) (by rw [rd_one1]; omega)
    have s3 := s1.pl s2 (Nat.le_of_eq rd_one1)
    have c5 := Tryz.kplus (0, 0) _ (1 / (1 + dt (nrm (p.t k)) (nrm (p.t (k + 1))))) (show Sz 2000 ((0 : Rat), (0 : Rat)) from ⟨by show rd (0 : Rat) ≤ _; rw [rd_zero0]; omega, by show rd (0 : Rat) ≤ _; rw [rd_zero0]; omega⟩) (s3.mono (by omega)) (by omega)
    simp only [ptD, rt1, rt0'] at c1 c2 c3 c4 c5
    simp only [lastD, dmD, Pf.dm, evX, evY, evZ, forall_const, implies_true, initE, stepF, D.clean, mvF, moF, tkF, shF, ariF, ciF, catF, scF, ebF, eqF, eqOk, eqPr, enF, notF, ngF, cvF, csF, csbF, lenF, lenSF, ixF, iaF, PX.slot, iaAF, faF, ldF, D.mem, stF, bxF, mkSF, boundF, fldF, ixAF, mmF2, D.plain, D.isPure, optAll, D.dull, callVF, splice, D.cells, D.one, sets, resT, D.flat, D.flat0, D.simple, Nat.reduceBNe, Nat.reduceLT, reduceIte, Nat.reduceEqDiff, Nat.reduceAdd, Nat.reduceMul, Nat.reduceSub, Nat.reduceLeDiff, Int.reduceToNat, Int.reduceLT, Int.reduceLE, Int.reduceEq, Int.reduceNeg, Int.reduceSub, Int.reduceAdd, Int.reduceMul, stG_own, asgQ_nrm]
    refine ⟨fun h => by omega, fun _ => ?_⟩
    refine callF_of c1 ?_
    (refine ev ?_; try exact ⟨⟩)
    refine callF_of c2 ?_
    (refine ev ?_; try exact ⟨⟩)
    refine callF_of c3 ?_
    (refine ev ?_; try exact ⟨⟩)
    refine callF_of c4 ?_
    (refine ev ?_; try exact ⟨⟩)
    refine callF_of c5 ?_
    (refine ev ?_; try exact ⟨⟩)
    refine ⟨by omega, by omega, ?_⟩
    simp only [evX, evY, evZ, forall_const, implies_true, initE, stepF, D.clean, mvF, moF, tkF, shF, ariF, ciF, catF, scF, ebF, eqF, eqOk, eqPr, enF, notF, ngF, cvF, csF, csbF, lenF, lenSF, ixF, iaF, PX.slot, iaAF, faF, ldF, D.mem, stF, bxF, mkSF, boundF, fldF, ixAF, mmF2, D.plain, D.isPure, optAll, D.dull, callVF, splice, D.cells, D.one, sets, resT, D.flat, D.flat0, D.simple, Nat.reduceBNe, Nat.reduceLT, reduceIte, Nat.reduceEqDiff, Nat.reduceAdd, Nat.reduceMul, Nat.reduceSub, Nat.reduceLeDiff, Int.reduceToNat, Int.reduceLT, Int.reduceLE, Int.reduceEq, Int.reduceNeg, Int.reduceSub, Int.reduceAdd, Int.reduceMul, stG_own, bodQ_nrm]
    have ha : p.ax (k + 1) = avg (nrm (p.t k)) (nrm (p.t (k + 1))) := by unfold Pf.ax; rw [if_neg (by omega), if_neg (by omega)]; rfl
    rw [axs_succ p (k + 1), ha]; rfl
theorem nms_succ (m : Nat) (f : Nat → Rat) : nms (m + 1) f = nms m f ++ [.str (rt (f m))] := lst_succ _ _
theorem nms_len (m : Nat) (f : Nat → Rat) : (nms m f).length = m := lst_len _ _

set_option maxHeartbeats 8000000 in
theorem Tryz.kgrow (p : Pf) (hp : PSz p) : Con Tryz.prog Tryz.L 62 [.agg (pfD p)] (.sl p.n (nms p.n p.gr)) := by
 have cd := Tryz.cdomains (L := Tryz.L) p
 have ce := Tryz.kends p hp
 refine rule62 Tryz.hL (fun q hq => by simp [PC.backs, pc62] at hq) Tryz.cuGrow rfl rfl rfl ?_
 simp only [pfD] at cd ce
 simp only [pfD, pc62, rs62, oU, oC, evX, evY, evZ, forall_const, implies_true, initE, stepF, D.clean, mvF, moF, tkF, shF, ariF, ciF, catF, scF, ebF, eqF, eqOk, eqPr, enF, notF, ngF, cvF, csF, csbF, lenF, lenSF, ixF, iaF, PX.slot, iaAF, faF, ldF, D.mem, stF, bxF, mkSF, boundF, fldF, ixAF, mmF2, D.plain, D.isPure, optAll, D.dull, callVF, splice, D.cells, D.one, sets, resT, D.flat, D.flat0, D.simple, Nat.reduceBNe, Nat.reduceLT, reduceIte, Nat.reduceEqDiff, Nat.reduceAdd, Nat.reduceMul, Nat.reduceSub, Nat.reduceLeDiff, Int.reduceToNat, Int.reduceLT, Int.reduceLE, Int.reduceEq, Int.reduceNeg, Int.reduceSub, Int.reduceAdd, Int.reduceMul, stG_own]
 refine callF_of ce ?_
 (refine ev ?_; try exact ⟨⟩)
 refine callF_of cd ?_
 (refine ev ?_; try exact ⟨⟩)
 refine seqT_of (lst p.n fun k => .agg (dmD (p.dm k))) (fun k E1 => E1 = [(3, .gbox 1000003), (4, .gbox 1000004), (10, .clo 115 [.pt (pfD p)]), (1000003, .own true 52 (p.n + 1) (axs p (p.n + 1))), (1000004, .own true 22 k (nms k p.gr))]) rfl ⟨p, rfl, hp, rfl⟩ rfl ?_ ?_ ?_
 ·rintro k E1 rfl; rfl
 ·rintro E1 rfl
  rw [lst_len]
  (refine ev ?_; try exact ⟨⟩)
 ·rintro k E1 d hd rfl
  obtain ⟨hk, rfl⟩ := lst_some hd
  refine ⟨rfl, ?_⟩
  have hn4 := hp.n
  have hl := axs_len p (p.n + 1)
  have e1 : ((k : Int) + 1).toNat = k + 1 := by omega
  have s1 := hp.ax (k + 1) (by omega)
  have s2 := hp.ax k (by omega)
  have c1 := Tryz.kminus (p.ax (k + 1)) (p.ax k) (s1.mono (by omega)) (s2.mono (by omega))
  have s3 := s1.mn s2
  have c2 := Tryz.kdot (dirK (p.t k)) (Kk.mn (p.ax (k + 1)) (p.ax k)) ((hp.dir hk).mono (by omega)) (s3.mono (by omega))
  simp only [ptD] at c1 c2
  simp only [dmD, Pf.dm, evX, evY, evZ, forall_const, implies_true, initE, stepF, D.clean, mvF, moF, tkF, shF, ariF, ciF, catF, scF, ebF, eqF, eqOk, eqPr, enF, notF, ngF, cvF, csF, csbF, lenF, lenSF, ixF, iaF, PX.slot, iaAF, faF, ldF, D.mem, stF, bxF, mkSF, boundF, fldF, ixAF, mmF2, D.plain, D.isPure, optAll, D.dull, callVF, splice, D.cells, D.one, sets, resT, D.flat, D.flat0, D.simple, Nat.reduceBNe, Nat.reduceLT, reduceIte, Nat.reduceEqDiff, Nat.reduceAdd, Nat.reduceMul, Nat.reduceSub, Nat.reduceLeDiff, Int.reduceToNat, Int.reduceLT, Int.reduceLE, Int.reduceEq, Int.reduceNeg, Int.reduceSub, Int.reduceAdd, Int.reduceMul, stG_own, asgQ_nrm]
  rw [e1, hl]
  refine ⟨by omega, by omega, ?_⟩
  rw [ldC_axs (by omega)]
  simp only [ptD, evX, evY, evZ, forall_const, implies_true, initE, stepF, D.clean, mvF, moF, tkF, shF, ariF, ciF, catF, scF, ebF, eqF, eqOk, eqPr, enF, notF, ngF, cvF, csF, csbF, lenF, lenSF, ixF, iaF, PX.slot, iaAF, faF, ldF, D.mem, stF, bxF, mkSF, boundF, fldF, ixAF, mmF2, D.plain, D.isPure, optAll, D.dull, callVF, splice, D.cells, D.one, sets, resT, D.flat, D.flat0, D.simple, Nat.reduceBNe, Nat.reduceLT, reduceIte, Nat.reduceEqDiff, Nat.reduceAdd, Nat.reduceMul, Nat.reduceSub, Nat.reduceLeDiff, Int.reduceToNat, Int.reduceLT, Int.reduceLE, Int.reduceEq, Int.reduceNeg, Int.reduceSub, Int.reduceAdd, Int.reduceMul, stG_own]
  rw [hl]
  refine ⟨by omega, ?_⟩
  rw [ldC_axs (by omega)]
  simp only [ptD, evX, evY, evZ, forall_const, implies_true, initE, stepF, D.clean, mvF, moF, tkF, shF, ariF, ciF, catF, scF, ebF, eqF, eqOk, eqPr, enF, notF, ngF, cvF, csF, csbF, lenF, lenSF, ixF, iaF, PX.slot, iaAF, faF, ldF, D.mem, stF, bxF, mkSF, boundF, fldF, ixAF, mmF2, D.plain, D.isPure, optAll, D.dull, callVF, splice, D.cells, D.one, sets, resT, D.flat, D.flat0, D.simple, Nat.reduceBNe, Nat.reduceLT, reduceIte, Nat.reduceEqDiff, Nat.reduceAdd, Nat.reduceMul, Nat.reduceSub, Nat.reduceLeDiff, Int.reduceToNat, Int.reduceLT, Int.reduceLE, Int.reduceEq, Int.reduceNeg, Int.reduceSub, Int.reduceAdd, Int.reduceMul, stG_own]
  refine callF_of c1 ?_
  (refine ev ?_; try exact ⟨⟩)
  refine callF_of c2 ?_
  (refine ev ?_; try exact ⟨⟩)
  refine ⟨by omega, by omega, ?_⟩
  simp only [evX, evY, evZ, forall_const, implies_true, initE, stepF, D.clean, mvF, moF, tkF, shF, ariF, ciF, catF, scF, ebF, eqF, eqOk, eqPr, enF, notF, ngF, cvF, csF, csbF, lenF, lenSF, ixF, iaF, PX.slot, iaAF, faF, ldF, D.mem, stF, bxF, mkSF, boundF, fldF, ixAF, mmF2, D.plain, D.isPure, optAll, D.dull, callVF, splice, D.cells, D.one, sets, resT, D.flat, D.flat0, D.simple, Nat.reduceBNe, Nat.reduceLT, reduceIte, Nat.reduceEqDiff, Nat.reduceAdd, Nat.reduceMul, Nat.reduceSub, Nat.reduceLeDiff, Int.reduceToNat, Int.reduceLT, Int.reduceLE, Int.reduceEq, Int.reduceNeg, Int.reduceSub, Int.reduceAdd, Int.reduceMul, stG_own, bodQ_nrm]
  rw [nms_succ]; rfl
end Go.Proofs

/-
 KINK: lengths, beds, the reach; sums. Own work.
-/
namespace Go.Proofs
open Go Go.Pi Go.RowKit Go.Ar Go.Ge Go.Kk

theorem ldC_nms {n k t : Nat} {f : Nat → Rat} {N : EP} {E : Env} : ldC false 1 (List.take 1 (List.drop k (nms n f))) t N E = (k < n ∧ N (st1 E t (.str (rt (f k))))) := by
 by_cases h : k < n
 ·have e : List.drop k (nms n f) = .str (rt (f k)) :: List.drop (k + 1) (nms n f) := by
   rw [List.drop_eq_getElem_cons (by rw [nms_len]; exact h)]
   congr 1
   have := lst_at (fun k => D.str (rt (f k))) h
   exact Option.some.inj ((List.getElem?_eq_getElem (by rw [nms_len]; exact h)).symm.trans this)
  rw [e]
  simp [ldC, ofCells, D.one, h]
 ·have e : List.drop k (nms n f) = [] := List.drop_eq_nil_of_le (by rw [nms_len]; omega)
  rw [e]
  simp [ldC, ofCells, h]
theorem ldC_nmsO {n k t : Nat} {f : Nat → Rat} {N : EP} {E : Env} : ldC false 1 (List.drop k (nms n f)) t N E = (k < n ∧ N (st1 E t (.str (rt (f k))))) := by
 by_cases h : k < n
 ·have e : List.drop k (nms n f) = .str (rt (f k)) :: List.drop (k + 1) (nms n f) := by
   rw [List.drop_eq_getElem_cons (by rw [nms_len]; exact h)]
   congr 1
   have := lst_at (fun k => D.str (rt (f k))) h
   exact Option.some.inj ((List.getElem?_eq_getElem (by rw [nms_len]; exact h)).symm.trans this)
  rw [e]
  simp [ldC, ofCells, D.one, h]
 ·have e : List.drop k (nms n f) = [] := List.drop_eq_nil_of_le (by rw [nms_len]; omega)
  rw [e]
  simp [ldC, ofCells, h]
theorem ldC_axsO {p : Pf} {m j t : Nat} {N : EP} {E : Env} : ldC true 4 (List.drop (j * 4) (axs p m)) t N E = (j < m ∧ N (st1 E t (.agg (axD (p.at' j, p.ax j))))) := by
 by_cases h : j < m
 ·obtain ⟨r, e⟩ := rows_at axD_len (lst_at (fun k => (p.at' k, p.ax k)) h)
  unfold axs
  rw [e, ldC_agg]
  simp [axD, h]
 ·have e : List.drop (j * 4) (axs p m) = [] := List.drop_eq_nil_of_le (by rw [axs_len]; omega)
  rw [e]
  simp [ldC, ofCells, h]
theorem sgn_le (q : Rat) : q.num.sign ≤ 0 ↔ ¬ 0 < q := by
 rcases sgn_cases q with ⟨h1, _, h3⟩ | ⟨h1, _, h3⟩ | ⟨h1, _, h3⟩ <;> rw [h3] <;> grind
theorem rd_ln {p : Pf} (hp : PSz p) {h : Rat} {m k : Nat} (hh : rd h ≤ m) (hk : k < p.n) : rd (p.ln h k) ≤ 111 + m := by
 have h1 := hp.gr k hk
 have h2 := hp.l k hk
 have h3 := rd_mul (p.gr k) h
 have h4 := rd_add (p.l k) (p.gr k * h)
 unfold Pf.ln; omega
theorem rd_sumN {f : Nat → Rat} {m : Nat} : ∀ {n : Nat}, (∀ k, k < n → rd (f k) ≤ m) → rd (sumN f n) ≤ 1 + n * (m + 1)
 | 0, _ => by simp [sumN, rd_zero0]
 | n + 1, h => by
   have h1 := rd_sumN (n := n) (fun k hk => h k (by omega))
   have h2 := h n (by omega)
   have h3 := rd_add (sumN f n) (f n)
   show rd (sumN f n + f n) ≤ _
   rw [Nat.succ_mul]; omega

set_option maxHeartbeats 4000000 in
theorem Tryz.klen (p : Pf) (hp : PSz p) (h : Rat) (hh : rd h ≤ 500) : Con Tryz.prog Tryz.L 78 [.agg (pfD p), .str (rt h)] (.own true 22 p.n (nms p.n (p.ln h))) := by
 have cg := Tryz.kgrow p hp
 have hn4 := hp.n
 refine rule78 Tryz.hL rfl rfl rfl ?_
 simp only [pfD] at cg
 simp only [pfD, pc78, rs78, oU, oC, evX, evY, evZ, forall_const, implies_true, initE, stepF, D.clean, mvF, moF, tkF, shF, ariF, ciF, catF, scF, ebF, eqF, eqOk, eqPr, enF, notF, ngF, cvF, csF, csbF, lenF, lenSF, ixF, iaF, PX.slot, iaAF, faF, ldF, D.mem, stF, bxF, mkSF, boundF, fldF, ixAF, mmF2, D.plain, D.isPure, optAll, D.dull, callVF, splice, D.cells, D.one, sets, resT, D.flat, D.flat0, D.simple, Nat.reduceBNe, Nat.reduceLT, reduceIte, Nat.reduceEqDiff, Nat.reduceAdd, Nat.reduceMul, Nat.reduceSub, Nat.reduceLeDiff, Int.reduceToNat, Int.reduceLT, Int.reduceLE, Int.reduceEq, Int.reduceNeg, Int.reduceSub, Int.reduceAdd, Int.reduceMul, stG_own]
 refine callF_of cg ?_
 (refine ev ?_; try exact ⟨⟩)
 refine loopF_of (fun E => ∃ k : Nat, k ≤ p.n ∧ E = [(1, .str (rt h)), (2, .box true [.str (rt p.s.1), .str (rt p.s.2), .sl p.n (nms p.n p.t), .sl p.n (nms p.n p.l)]), (5, .own true 22 k (nms k (p.ln h))), (9, .sl p.n (nms p.n p.gr)), (10, .int .i64 p.n), (11, .int .i64 k)])
  (fun E => match lk E 11 with | .int _ i => p.n - i.toNat | _ => 0) ⟨0, Nat.zero_le _, rfl⟩ ?_
 rintro _ ⟨k, hk, rfl⟩
 simp only [evX, evY, evZ, forall_const, implies_true, initE, stepF, D.clean, mvF, moF, tkF, shF, ariF, ciF, catF, scF, ebF, eqF, eqOk, eqPr, enF, notF, ngF, cvF, csF, csbF, lenF, lenSF, ixF, iaF, PX.slot, iaAF, faF, ldF, D.mem, stF, bxF, mkSF, boundF, fldF, ixAF, mmF2, D.plain, D.isPure, optAll, D.dull, callVF, splice, D.cells, D.one, sets, resT, D.flat, D.flat0, D.simple, Nat.reduceBNe, Nat.reduceLT, reduceIte, Nat.reduceEqDiff, Nat.reduceAdd, Nat.reduceMul, Nat.reduceSub, Nat.reduceLeDiff, Int.reduceToNat, Int.reduceLT, Int.reduceLE, Int.reduceEq, Int.reduceNeg, Int.reduceSub, Int.reduceAdd, Int.reduceMul, stG_own, ldC_nms, nms_len]
 refine ⟨fun h3 => ?_, fun h3 => ?_⟩
 ·have hk2 : k < p.n := by omega
  refine ⟨⟨by omega, by omega, by omega⟩, hk2, ⟨by omega, by omega, by omega⟩, hk2, ?_⟩
  have g1 := hp.gr k hk2
  have g2 := hp.l k hk2
  have g3 := rd_mul (p.gr k) h
  refine callF_of (Tryz.rmul (p.gr k) h (by omega) (by omega)) ?_
  (refine ev ?_; try exact ⟨⟩)
  refine callF_of (Tryz.radd (p.l k) (p.gr k * h) (by omega) (by omega)) ?_
  (refine ev ?_; try exact ⟨⟩)
  exact ⟨by omega, by omega, by omega, ⟨k + 1, by omega, by rw [nms_succ]; exact ⟨rfl, rfl⟩⟩, by omega⟩
 ·obtain rfl : k = p.n := by omega
  rfl

set_option maxHeartbeats 4000000 in
theorem Tryz.kbed (p : Pf) (hp : PSz p) (h : Rat) (hh : rd h ≤ 500) : Con Tryz.prog Tryz.L 77 [.agg (pfD p), .str (rt h)] (.own true 25 (p.n + 1) (pts (lst (p.n + 1) (p.bd h)))) := by
 have cg := Tryz.kends p hp
 have hn4 := hp.n
 refine rule77 Tryz.hL rfl rfl rfl ?_
 simp only [pfD] at cg
 simp only [pfD, pc77, rs77, oU, oC, evX, evY, evZ, forall_const, implies_true, initE, stepF, D.clean, mvF, moF, tkF, shF, ariF, ciF, catF, scF, ebF, eqF, eqOk, eqPr, enF, notF, ngF, cvF, csF, csbF, lenF, lenSF, ixF, iaF, PX.slot, iaAF, faF, ldF, D.mem, stF, bxF, mkSF, boundF, fldF, ixAF, mmF2, D.plain, D.isPure, optAll, D.dull, callVF, splice, D.cells, D.one, sets, resT, D.flat, D.flat0, D.simple, Nat.reduceBNe, Nat.reduceLT, reduceIte, Nat.reduceEqDiff, Nat.reduceAdd, Nat.reduceMul, Nat.reduceSub, Nat.reduceLeDiff, Int.reduceToNat, Int.reduceLT, Int.reduceLE, Int.reduceEq, Int.reduceNeg, Int.reduceSub, Int.reduceAdd, Int.reduceMul, stG_own]
 refine callF_of cg ?_
 (refine ev ?_; try exact ⟨⟩)
 refine loopF_of (fun E => ∃ k : Nat, k ≤ p.n + 1 ∧ E = [(1, .str (rt h)), (5, .own true 25 k (pts (lst k (p.bd h)))), (9, .own true 52 (p.n + 1) (axs p (p.n + 1))), (10, .int .i64 ((p.n + 1 : Nat) : Int)), (11, .int .i64 k)])
  (fun E => match lk E 11 with | .int _ i => p.n + 1 - i.toNat | _ => 0) ⟨0, Nat.zero_le _, rfl⟩ ?_
 rintro _ ⟨k, hk, rfl⟩
 have hl := axs_len p (p.n + 1)
 have hl2 := pts_len (lst k (p.bd h))
 rw [lst_len] at hl2
 simp only [evX, evY, evZ, forall_const, implies_true, initE, stepF, D.clean, mvF, moF, tkF, shF, ariF, ciF, catF, scF, ebF, eqF, eqOk, eqPr, enF, notF, ngF, cvF, csF, csbF, lenF, lenSF, ixF, iaF, PX.slot, iaAF, faF, ldF, D.mem, stF, bxF, mkSF, boundF, fldF, ixAF, mmF2, D.plain, D.isPure, optAll, D.dull, callVF, splice, D.cells, D.one, sets, resT, D.flat, D.flat0, D.simple, Nat.reduceBNe, Nat.reduceLT, reduceIte, Nat.reduceEqDiff, Nat.reduceAdd, Nat.reduceMul, Nat.reduceSub, Nat.reduceLeDiff, Int.reduceToNat, Int.reduceLT, Int.reduceLE, Int.reduceEq, Int.reduceNeg, Int.reduceSub, Int.reduceAdd, Int.reduceMul, stG_own, ldC_axsO, axD]
 refine ⟨fun h3 => ?_, fun h3 => ?_⟩
 ·have hk2 : k < p.n + 1 := by omega
  rw [hl]
  refine ⟨⟨by omega, by omega, by omega⟩, hk2, ?_⟩
  have c := Tryz.kplus (p.at' k) (p.ax k) h ((hp.at' k (by omega)).mono (by omega)) ((hp.ax k (by omega)).mono (by omega)) (by omega)
  simp only [ptD] at c
  refine callF_of c ?_
  (refine ev ?_; try exact ⟨⟩)
  exact ⟨by omega, by omega, by omega, ⟨k + 1, by omega, by rw [lst_succ, pts_snoc]; exact ⟨rfl, rfl⟩⟩, by omega⟩
 ·obtain rfl : k = p.n + 1 := by omega
  rfl

set_option maxHeartbeats 4000000 in
theorem Tryz.kwithin (p : Pf) (hp : PSz p) (h : Rat) (hh : rd h ≤ 500) : Con Tryz.prog Tryz.L 76 [.agg (pfD p), .str (rt h)] (.bool (p.win h)) := by
 have cg := Tryz.klen p hp h hh
 have hn4 := hp.n
 refine rule76 Tryz.hL rfl rfl rfl ?_
 simp only [pfD] at cg
 simp only [pfD, pc76, rs76, oU, oC, evX, evY, evZ, forall_const, implies_true, initE, stepF, D.clean, mvF, moF, tkF, shF, ariF, ciF, catF, scF, ebF, eqF, eqOk, eqPr, enF, notF, ngF, cvF, csF, csbF, lenF, lenSF, ixF, iaF, PX.slot, iaAF, faF, ldF, D.mem, stF, bxF, mkSF, boundF, fldF, ixAF, mmF2, D.plain, D.isPure, optAll, D.dull, callVF, splice, D.cells, D.one, sets, resT, D.flat, D.flat0, D.simple, Nat.reduceBNe, Nat.reduceLT, reduceIte, Nat.reduceEqDiff, Nat.reduceAdd, Nat.reduceMul, Nat.reduceSub, Nat.reduceLeDiff, Int.reduceToNat, Int.reduceLT, Int.reduceLE, Int.reduceEq, Int.reduceNeg, Int.reduceSub, Int.reduceAdd, Int.reduceMul, stG_own]
 refine callF_of cg ?_
 (refine ev ?_; try exact ⟨⟩)
 refine loopF_of (fun E => ∃ k : Nat, k ≤ p.n ∧ (∀ j, j < k → 0 < p.ln h j) ∧ E = [(9, .own true 22 p.n (nms p.n (p.ln h))), (10, .int .i64 p.n), (11, .int .i64 k)])
  (fun E => match lk E 11 with | .int _ i => p.n - i.toNat | _ => 0) ⟨0, Nat.zero_le _, fun j hj => absurd hj (by omega), rfl⟩ ?_
 rintro _ ⟨k, hk, hall, rfl⟩
 simp only [evX, evY, evZ, forall_const, implies_true, initE, stepF, D.clean, mvF, moF, tkF, shF, ariF, ciF, catF, scF, ebF, eqF, eqOk, eqPr, enF, notF, ngF, cvF, csF, csbF, lenF, lenSF, ixF, iaF, PX.slot, iaAF, faF, ldF, D.mem, stF, bxF, mkSF, boundF, fldF, ixAF, mmF2, D.plain, D.isPure, optAll, D.dull, callVF, splice, D.cells, D.one, sets, resT, D.flat, D.flat0, D.simple, Nat.reduceBNe, Nat.reduceLT, reduceIte, Nat.reduceEqDiff, Nat.reduceAdd, Nat.reduceMul, Nat.reduceSub, Nat.reduceLeDiff, Int.reduceToNat, Int.reduceLT, Int.reduceLE, Int.reduceEq, Int.reduceNeg, Int.reduceSub, Int.reduceAdd, Int.reduceMul, stG_own, ldC_nmsO, nms_len]
 refine ⟨fun h3 => ?_, fun h3 => ?_⟩
 ·have hk2 : k < p.n := by omega
  refine ⟨⟨by omega, by omega, by omega⟩, hk2, ?_⟩
  have := rd_ln hp hh hk2
  refine callF_of (Tryz.rsign (p.ln h k) (by omega)) ?_
  (refine ev ?_; try exact ⟨⟩)
  rw [sgn_le]
  refine ⟨fun h4 => ?_, fun h4 => ⟨by omega, ⟨k + 1, by omega, fun j hj => ?_, rfl⟩, by omega⟩⟩
  ·have e : p.win h = false := by unfold Pf.win; rw [decide_eq_false_iff_not]; exact fun z => h4 (z k hk2)
   rw [e]
  ·by_cases e : j = k
   ·subst e; exact Classical.not_not.1 h4
   ·exact hall j (by omega)
 ·obtain rfl : k = p.n := by omega
  have e : p.win h = true := by unfold Pf.win; rw [decide_eq_true_iff]; exact hall
  rw [e]

theorem Tryz.ksum (n : Nat) (f : Nat → Rat) (hn : n ≤ 10) (hf : ∀ k, k < n → rd (f k) ≤ 450) : Con Tryz.prog Tryz.L 79 [.sl n (nms n f)] (.str (rt (sumN f n))) := by
 refine rule79 Tryz.hL rfl rfl rfl ?_
 (simp only [pc79, rs79, oU, oC]; refine ev ?_; try exact ⟨⟩)
 refine loopF_of (fun E => ∃ k : Nat, k ≤ n ∧ E = [(3, .str (rt (sumN f k))), (6, .sl n (nms n f)), (7, .int .i64 n), (8, .int .i64 k)])
  (fun E => match lk E 8 with | .int _ i => n - i.toNat | _ => 0) ⟨0, Nat.zero_le _, by rw [show sumN f 0 = 0 from rfl, rt0']; rfl⟩ ?_
 rintro _ ⟨k, hk, rfl⟩
 simp only [evX, evY, evZ, forall_const, implies_true, initE, stepF, D.clean, mvF, moF, tkF, shF, ariF, ciF, catF, scF, ebF, eqF, eqOk, eqPr, enF, notF, ngF, cvF, csF, csbF, lenF, lenSF, ixF, iaF, PX.slot, iaAF, faF, ldF, D.mem, stF, bxF, mkSF, boundF, fldF, ixAF, mmF2, D.plain, D.isPure, optAll, D.dull, callVF, splice, D.cells, D.one, sets, resT, D.flat, D.flat0, D.simple, Nat.reduceBNe, Nat.reduceLT, reduceIte, Nat.reduceEqDiff, Nat.reduceAdd, Nat.reduceMul, Nat.reduceSub, Nat.reduceLeDiff, Int.reduceToNat, Int.reduceLT, Int.reduceLE, Int.reduceEq, Int.reduceNeg, Int.reduceSub, Int.reduceAdd, Int.reduceMul, stG_own, ldC_nms, nms_len]
 refine ⟨fun h3 => ?_, fun h3 => ?_⟩
 ·have hk2 : k < n := by omega
  refine ⟨⟨by omega, by omega, by omega⟩, hk2, ?_⟩
  have h1 := hf k hk2
  have h2 := rd_sumN (f := f) (m := 450) (n := k) (fun j hj => hf j (by omega))
  have h3 : k * (450 + 1) ≤ 10 * 451 := Nat.mul_le_mul (by omega) (by omega)
  refine callF_of (Tryz.radd (sumN f k) (f k) (by omega) (by omega)) ?_
  (refine ev ?_; try exact ⟨⟩)
  exact ⟨by omega, ⟨k + 1, by omega, ⟨rfl, rfl⟩⟩, by omega⟩
 ·obtain rfl : k = n := by omega
  rfl

theorem Tryz.kmiddle (a b : Rat) (ha : rd a ≤ 2400) (hb : rd b ≤ 2400) : Con Tryz.prog Tryz.L 48 [.str (rt a), .str (rt b)] (.str (rt ((a + b) * (1 / 2)))) := by
 have h1 := rd_add a b
 have c := Tryz.rmul (a + b) (1 / 2) (by omega) (Nat.le_trans (show rd (1 / 2 : Rat) ≤ 1 by decide +kernel) (by omega))
 rw [show rt (1 / 2 : Rat) = [49, 47, 50] by decide +kernel] at c
 refine rule48 Tryz.hL rfl rfl rfl ?_
 (simp only [pc48, rs48, oU, oC]; refine ev ?_; try exact ⟨⟩)
 refine callF_of (Tryz.radd a b (by omega) (by omega)) ?_
 (refine ev ?_; try exact ⟨⟩)
 refine callF_of c ?_
 (refine ev ?_; try exact ⟨⟩)
end Go.Proofs

/-
 KINK: right points and numbers; Check and the heights of a right profile. Own work.
-/
namespace Go.Proofs
open Go Go.Pi Go.RowKit Go.Ar Go.Ge Go.Kk

theorem Tryz.kplace (q : Pt) (h : Sz 200 q) : Con Tryz.prog Tryz.L 55 [ptD q] (.tup [ptD q, .int .i64 0]) := by
 have c := Tryz.ppoint q h
 refine rule55 Tryz.hL rfl rfl rfl ?_
 simp only [ptD] at c
 simp only [ptD, pc55, rs55, oU, oC, evX, evY, evZ, forall_const, implies_true, initE, stepF, D.clean, mvF, moF, tkF, shF, ariF, ciF, catF, scF, ebF, eqF, eqOk, eqPr, enF, notF, ngF, cvF, csF, csbF, lenF, lenSF, ixF, iaF, PX.slot, iaAF, faF, ldF, D.mem, stF, bxF, mkSF, boundF, fldF, ixAF, mmF2, D.plain, D.isPure, optAll, D.dull, callVF, splice, D.cells, D.one, sets, resT, D.flat, D.flat0, D.simple, Nat.reduceBNe, Nat.reduceLT, reduceIte, Nat.reduceEqDiff, Nat.reduceAdd, Nat.reduceMul, Nat.reduceSub, Nat.reduceLeDiff, Int.reduceToNat, Int.reduceLT, Int.reduceLE, Int.reduceEq, Int.reduceNeg, Int.reduceSub, Int.reduceAdd, Int.reduceMul, stG_own]
 refine callF_of c ?_
 (refine ev ?_; try exact ⟨⟩)
 rfl
theorem Tryz.kresult (x : Rat) (h : rd x ≤ 200) : Con Tryz.prog Tryz.L 81 [.str (rt x)] (.tup [.str (rt x), .int .i64 0]) := by
 refine rule81 Tryz.hL rfl rfl rfl ?_
 (simp only [pc81, rs81, oU, oC]; refine ev ?_; try exact ⟨⟩)
 refine callF_of (Tryz.rcheckQ x h) ?_
 (refine ev ?_; try exact ⟨⟩)
 rfl
theorem Tryz.kplaces (n : Nat) (f : Nat → Pt) (hn : n ≤ 1000) (hf : ∀ k, k < n → Sz 200 (f k)) : Con Tryz.prog Tryz.L 82 [.sl n (pts (lst n f))] (.tup [.sl n (pts (lst n f)), .int .i64 0]) := by
 refine rule82 Tryz.hL rfl rfl rfl ?_
 (simp only [pc82, rs82, oU, oC]; refine ev ?_; try exact ⟨⟩)
 refine loopF_of (fun E => ∃ k : Nat, k ≤ n ∧ E = [(0, .sl n (pts (lst n f))), (8, .sl n (pts (lst n f))), (9, .int .i64 n), (10, .int .i64 k)])
  (fun E => match lk E 10 with | .int _ i => n - i.toNat | _ => 0) ⟨0, Nat.zero_le _, rfl⟩ ?_
 rintro _ ⟨k, hk, rfl⟩
 have hl := pts_len (lst n f)
 rw [lst_len] at hl
 simp only [evX, evY, evZ, forall_const, implies_true, initE, stepF, D.clean, mvF, moF, tkF, shF, ariF, ciF, catF, scF, ebF, eqF, eqOk, eqPr, enF, notF, ngF, cvF, csF, csbF, lenF, lenSF, ixF, iaF, PX.slot, iaAF, faF, ldF, D.mem, stF, bxF, mkSF, boundF, fldF, ixAF, mmF2, D.plain, D.isPure, optAll, D.dull, callVF, splice, D.cells, D.one, sets, resT, D.flat, D.flat0, D.simple, Nat.reduceBNe, Nat.reduceLT, reduceIte, Nat.reduceEqDiff, Nat.reduceAdd, Nat.reduceMul, Nat.reduceSub, Nat.reduceLeDiff, Int.reduceToNat, Int.reduceLT, Int.reduceLE, Int.reduceEq, Int.reduceNeg, Int.reduceSub, Int.reduceAdd, Int.reduceMul, stG_own, ldC_pts, hl]
 refine ⟨fun h3 => ?_, fun h3 => ?_⟩
 ·have hk2 : k < n := by omega
  refine ⟨⟨by omega, by omega, by omega⟩, f k, lst_at f hk2, ?_⟩
  have c := Tryz.kplace (f k) (hf k hk2)
  simp only [ptD] at c
  simp only [pD, evX, evY, evZ, forall_const, implies_true, initE, stepF, D.clean, mvF, moF, tkF, shF, ariF, ciF, catF, scF, ebF, eqF, eqOk, eqPr, enF, notF, ngF, cvF, csF, csbF, lenF, lenSF, ixF, iaF, PX.slot, iaAF, faF, ldF, D.mem, stF, bxF, mkSF, boundF, fldF, ixAF, mmF2, D.plain, D.isPure, optAll, D.dull, callVF, splice, D.cells, D.one, sets, resT, D.flat, D.flat0, D.simple, Nat.reduceBNe, Nat.reduceLT, reduceIte, Nat.reduceEqDiff, Nat.reduceAdd, Nat.reduceMul, Nat.reduceSub, Nat.reduceLeDiff, Int.reduceToNat, Int.reduceLT, Int.reduceLE, Int.reduceEq, Int.reduceNeg, Int.reduceSub, Int.reduceAdd, Int.reduceMul, stG_own]
  refine callF_of c ?_
  (refine ev ?_; try exact ⟨⟩)
  exact ⟨by omega, ⟨k + 1, by omega, rfl⟩, by omega⟩
 ·obtain rfl : k = n := by omega
  rfl

theorem cmp_abs {t : Rat} (h : -1 < t ∧ t < 1) : cmpQ (absQ t) 1 < 0 := by
 have e : absQ t < 1 := by unfold absQ; split <;> grind
 unfold cmpQ
 rw [if_pos e]; omega

set_option maxHeartbeats 4000000 in
theorem Tryz.kcheck (p : Pf) (hp : PSz p) : Con Tryz.prog Tryz.L 42 [.agg (pfD p)] (.int .i64 0) := by
 have c := Tryz.ppoint p.s ((hp.at' 0 (Nat.zero_le _)).mono (by omega))
 have hn4 := hp.n
 have hn0 := hp.n0
 refine rule42 Tryz.hL rfl rfl rfl ?_
 simp only [ptD] at c
 simp only [pfD, pc42, rs42, oU, oC, evX, evY, evZ, forall_const, implies_true, initE, stepF, D.clean, mvF, moF, tkF, shF, ariF, ciF, catF, scF, ebF, eqF, eqOk, eqPr, enF, notF, ngF, cvF, csF, csbF, lenF, lenSF, ixF, iaF, PX.slot, iaAF, faF, ldF, D.mem, stF, bxF, mkSF, boundF, fldF, ixAF, mmF2, D.plain, D.isPure, optAll, D.dull, callVF, splice, D.cells, D.one, sets, resT, D.flat, D.flat0, D.simple, Nat.reduceBNe, Nat.reduceLT, reduceIte, Nat.reduceEqDiff, Nat.reduceAdd, Nat.reduceMul, Nat.reduceSub, Nat.reduceLeDiff, Int.reduceToNat, Int.reduceLT, Int.reduceLE, Int.reduceEq, Int.reduceNeg, Int.reduceSub, Int.reduceAdd, Int.reduceMul, stG_own]
 refine ⟨fun h => by omega, fun _ => ⟨fun h => by omega, fun _ => ?_⟩⟩
 refine callF_of c ?_
 (refine ev ?_; try exact ⟨⟩)
 refine loopF_of (fun E => ∃ k : Nat, k ≤ p.n ∧ E = [(1, .box true [.str (rt p.s.1), .str (rt p.s.2), .sl p.n (nms p.n p.t), .sl p.n (nms p.n p.l)]), (29, .sl p.n (nms p.n p.t)), (30, .int .i64 p.n), (31, .int .i64 k)])
  (fun E => match lk E 31 with | .int _ i => p.n - i.toNat | _ => 0) ⟨0, Nat.zero_le _, rfl⟩ ?_
 rintro _ ⟨k, hk, rfl⟩
 simp only [evX, evY, evZ, forall_const, implies_true, initE, stepF, D.clean, mvF, moF, tkF, shF, ariF, ciF, catF, scF, ebF, eqF, eqOk, eqPr, enF, notF, ngF, cvF, csF, csbF, lenF, lenSF, ixF, iaF, PX.slot, iaAF, faF, ldF, D.mem, stF, bxF, mkSF, boundF, fldF, ixAF, mmF2, D.plain, D.isPure, optAll, D.dull, callVF, splice, D.cells, D.one, sets, resT, D.flat, D.flat0, D.simple, Nat.reduceBNe, Nat.reduceLT, reduceIte, Nat.reduceEqDiff, Nat.reduceAdd, Nat.reduceMul, Nat.reduceSub, Nat.reduceLeDiff, Int.reduceToNat, Int.reduceLT, Int.reduceLE, Int.reduceEq, Int.reduceNeg, Int.reduceSub, Int.reduceAdd, Int.reduceMul, stG_own, ldC_nms, nms_len]
 intro h3
 have hk2 : k < p.n := by omega
 obtain ⟨o1, o2, o3⟩ := hp.ok k hk2
 have z1 := hp.t k hk2
 have z2 := hp.l k hk2
 have ca := Tryz.rcompare (absQ (p.t k)) 1 (by rw [rd_abs]; omega) (by rw [rd_one1]; omega)
 rw [rt1] at ca
 have hc := cmp_abs ⟨o1, o2⟩
 refine ⟨⟨by omega, by omega, by omega⟩, hk2, ?_⟩
 refine callF_of (Tryz.rcheckQ (p.t k) (by omega)) ?_
 simp only [evX, evY, evZ, forall_const, implies_true, initE, stepF, D.clean, mvF, moF, tkF, shF, ariF, ciF, catF, scF, ebF, eqF, eqOk, eqPr, enF, notF, ngF, cvF, csF, csbF, lenF, lenSF, ixF, iaF, PX.slot, iaAF, faF, ldF, D.mem, stF, bxF, mkSF, boundF, fldF, ixAF, mmF2, D.plain, D.isPure, optAll, D.dull, callVF, splice, D.cells, D.one, sets, resT, D.flat, D.flat0, D.simple, Nat.reduceBNe, Nat.reduceLT, reduceIte, Nat.reduceEqDiff, Nat.reduceAdd, Nat.reduceMul, Nat.reduceSub, Nat.reduceLeDiff, Int.reduceToNat, Int.reduceLT, Int.reduceLE, Int.reduceEq, Int.reduceNeg, Int.reduceSub, Int.reduceAdd, Int.reduceMul, stG_own, ldC_nms, nms_len]
 refine ⟨⟨by omega, by omega, by omega⟩, hk2, ?_⟩
 refine callF_of (Tryz.rcheckQ (p.l k) (by omega)) ?_
 (refine ev ?_; try exact ⟨⟩)
 refine callF_of (Tryz.rabs (p.t k) (by omega)) ?_
 (refine ev ?_; try exact ⟨⟩)
 refine callF_of ca ?_
 simp only [evX, evY, evZ, forall_const, implies_true, initE, stepF, D.clean, mvF, moF, tkF, shF, ariF, ciF, catF, scF, ebF, eqF, eqOk, eqPr, enF, notF, ngF, cvF, csF, csbF, lenF, lenSF, ixF, iaF, PX.slot, iaAF, faF, ldF, D.mem, stF, bxF, mkSF, boundF, fldF, ixAF, mmF2, D.plain, D.isPure, optAll, D.dull, callVF, splice, D.cells, D.one, sets, resT, D.flat, D.flat0, D.simple, Nat.reduceBNe, Nat.reduceLT, reduceIte, Nat.reduceEqDiff, Nat.reduceAdd, Nat.reduceMul, Nat.reduceSub, Nat.reduceLeDiff, Int.reduceToNat, Int.reduceLT, Int.reduceLE, Int.reduceEq, Int.reduceNeg, Int.reduceSub, Int.reduceAdd, Int.reduceMul, stG_own, ldC_nms, nms_len]
 refine ⟨fun _ => ?_, fun h => by omega⟩
 refine ⟨⟨by omega, by omega, by omega⟩, hk2, ?_⟩
 refine callF_of (Tryz.rsign (p.l k) (by omega)) ?_
 (refine ev ?_; try exact ⟨⟩)
 rw [sgn_le]
 refine ⟨fun h => absurd o3 h, fun _ => ?_⟩
 exact ⟨by omega, ⟨k + 1, by omega, rfl⟩, by omega⟩

def Pf.wins (p : Pf) (n : Nat) (f : Nat → Rat) : Bool := decide (∀ k, k < n → p.win (f k) = true)

set_option maxHeartbeats 4000000 in
theorem Tryz.kheights (p : Pf) (hp : PSz p) (n : Nat) (f : Nat → Rat) (hn : n ≤ 4) (hf : ∀ k, k < n → rd (f k) ≤ 200) :
  Con Tryz.prog Tryz.L 80 [.agg (pfD p), .sl n (nms n f)] (.int .i64 (if Pf.wins p n f = true then 0 else 3)) := by
 have c := Tryz.kcheck p hp
 refine rule80 Tryz.hL rfl rfl rfl ?_
 simp only [pfD] at c
 simp only [pfD, pc80, rs80, oU, oC, evX, evY, evZ, forall_const, implies_true, initE, stepF, D.clean, mvF, moF, tkF, shF, ariF, ciF, catF, scF, ebF, eqF, eqOk, eqPr, enF, notF, ngF, cvF, csF, csbF, lenF, lenSF, ixF, iaF, PX.slot, iaAF, faF, ldF, D.mem, stF, bxF, mkSF, boundF, fldF, ixAF, mmF2, D.plain, D.isPure, optAll, D.dull, callVF, splice, D.cells, D.one, sets, resT, D.flat, D.flat0, D.simple, Nat.reduceBNe, Nat.reduceLT, reduceIte, Nat.reduceEqDiff, Nat.reduceAdd, Nat.reduceMul, Nat.reduceSub, Nat.reduceLeDiff, Int.reduceToNat, Int.reduceLT, Int.reduceLE, Int.reduceEq, Int.reduceNeg, Int.reduceSub, Int.reduceAdd, Int.reduceMul, stG_own]
 refine callF_of c ?_
 (refine ev ?_; try exact ⟨⟩)
 refine loopF_of (fun E => ∃ k : Nat, k ≤ n ∧ E = [(1, .sl n (nms n f)), (2, .box true [.str (rt p.s.1), .str (rt p.s.2), .sl p.n (nms p.n p.t), .sl p.n (nms p.n p.l)]), (15, .sl n (nms n f)), (16, .int .i64 n), (17, .int .i64 k)])
  (fun E => match lk E 17 with | .int _ i => n - i.toNat | _ => 0) ⟨0, Nat.zero_le _, rfl⟩ ?_
 rintro _ ⟨k, hk, rfl⟩
 simp only [evX, evY, evZ, forall_const, implies_true, initE, stepF, D.clean, mvF, moF, tkF, shF, ariF, ciF, catF, scF, ebF, eqF, eqOk, eqPr, enF, notF, ngF, cvF, csF, csbF, lenF, lenSF, ixF, iaF, PX.slot, iaAF, faF, ldF, D.mem, stF, bxF, mkSF, boundF, fldF, ixAF, mmF2, D.plain, D.isPure, optAll, D.dull, callVF, splice, D.cells, D.one, sets, resT, D.flat, D.flat0, D.simple, Nat.reduceBNe, Nat.reduceLT, reduceIte, Nat.reduceEqDiff, Nat.reduceAdd, Nat.reduceMul, Nat.reduceSub, Nat.reduceLeDiff, Int.reduceToNat, Int.reduceLT, Int.reduceLE, Int.reduceEq, Int.reduceNeg, Int.reduceSub, Int.reduceAdd, Int.reduceMul, stG_own, ldC_nms, nms_len]
 refine ⟨fun h3 => ?_, fun h3 => ?_⟩
 ·have hk2 : k < n := by omega
  refine ⟨⟨by omega, by omega, by omega⟩, hk2, ?_⟩
  refine callF_of (Tryz.rcheckQ (f k) (hf k hk2)) ?_
  (refine ev ?_; try exact ⟨⟩)
  exact ⟨by omega, ⟨k + 1, by omega, rfl⟩, by omega⟩
 ·refine loopF_of (fun E => ∃ k : Nat, k ≤ n ∧ (∀ j, j < k → p.win (f j) = true) ∧ E = [(2, .box true [.str (rt p.s.1), .str (rt p.s.2), .sl p.n (nms p.n p.t), .sl p.n (nms p.n p.l)]), (25, .sl n (nms n f)), (26, .int .i64 n), (27, .int .i64 k)])
   (fun E => match lk E 27 with | .int _ i => n - i.toNat | _ => 0) ⟨0, Nat.zero_le _, fun j hj => absurd hj (by omega), rfl⟩ ?_
  rintro _ ⟨k, hk, hall, rfl⟩
  simp only [evX, evY, evZ, forall_const, implies_true, initE, stepF, D.clean, mvF, moF, tkF, shF, ariF, ciF, catF, scF, ebF, eqF, eqOk, eqPr, enF, notF, ngF, cvF, csF, csbF, lenF, lenSF, ixF, iaF, PX.slot, iaAF, faF, ldF, D.mem, stF, bxF, mkSF, boundF, fldF, ixAF, mmF2, D.plain, D.isPure, optAll, D.dull, callVF, splice, D.cells, D.one, sets, resT, D.flat, D.flat0, D.simple, Nat.reduceBNe, Nat.reduceLT, reduceIte, Nat.reduceEqDiff, Nat.reduceAdd, Nat.reduceMul, Nat.reduceSub, Nat.reduceLeDiff, Int.reduceToNat, Int.reduceLT, Int.reduceLE, Int.reduceEq, Int.reduceNeg, Int.reduceSub, Int.reduceAdd, Int.reduceMul, stG_own, ldC_nms, nms_len]
  refine ⟨fun h3 => ?_, fun h3 => ?_⟩
  ·have hk2 : k < n := by omega
   have hfk := hf k hk2
   refine ⟨⟨by omega, by omega, by omega⟩, hk2, ?_⟩
   have cw := Tryz.kwithin p hp (f k) (by omega)
   simp only [pfD] at cw
   refine callF_of cw ?_
   cases hw : p.win (f k) with
   | true =>
     (refine ev ?_; try exact ⟨⟩)
     refine ⟨by omega, ⟨k + 1, by omega, fun j hj => ?_, rfl⟩, by omega⟩
     by_cases e : j = k
     ·subst e; exact hw
     ·exact hall j (by omega)
   | false =>
     (refine ev ?_; try exact ⟨⟩)
     have e : Pf.wins p n f = false := by unfold Pf.wins; rw [decide_eq_false_iff_not]; intro z; rw [z k hk2] at hw; cases hw
     rw [e]; rfl
  ·obtain rfl : k = n := by omega
   have e : Pf.wins p k f = true := by unfold Pf.wins; rw [decide_eq_true_iff]; exact hall
   rw [e]; rfl
end Go.Proofs

/-
 KINK: Bed, Along, Length, Area, Quad, Direction. Own work.
-/
namespace Go.Proofs
open Go Go.Pi Go.RowKit Go.Ar Go.Ge Go.Kk

theorem wins1 (p : Pf) (h : Rat) : Pf.wins p 1 (fun _ => h) = p.win h := by
 unfold Pf.wins
 cases hw : p.win h
 ·rw [decide_eq_false_iff_not]; intro z; have := z 0 (by omega); rw [hw] at this; cases this
 ·rw [decide_eq_true_iff]; exact fun _ _ => hw
theorem Tryz.kheight (p : Pf) (hp : PSz p) (h : Rat) (hh : rd h ≤ 200) :
  Con Tryz.prog Tryz.L 80 [.agg (pfD p), .sl 1 [.str (rt h)]] (.int .i64 (if p.win h = true then 0 else 3)) := by
 have c := Tryz.kheights p hp 1 (fun _ => h) (by omega) (fun _ _ => hh)
 rw [wins1] at c
 exact c
theorem wins2 (p : Pf) (a b : Rat) : Pf.wins p 2 (fun k => if k = 0 then a else b) = (p.win a && p.win b) := by
 unfold Pf.wins
 cases ha : p.win a
 ·rw [Bool.false_and, decide_eq_false_iff_not]; intro z; have := z 0 (by omega); simp only [if_true] at this; rw [ha] at this; cases this
 ·cases hb : p.win b
  ·rw [Bool.and_false, decide_eq_false_iff_not]; intro z; have := z 1 (by omega); simp only [Nat.one_ne_zero, if_false] at this; rw [hb] at this; cases this
  ·rw [Bool.and_true, decide_eq_true_iff]; intro k hk; show p.win (if k = 0 then a else b) = true; split
   ·exact ha
   ·exact hb
theorem Tryz.kheight2 (p : Pf) (hp : PSz p) (a b : Rat) (ha : rd a ≤ 200) (hb : rd b ≤ 200) :
  Con Tryz.prog Tryz.L 80 [.agg (pfD p), .sl 2 [.str (rt a), .str (rt b)]] (.int .i64 (if (p.win a && p.win b) = true then 0 else 3)) := by
 have c := Tryz.kheights p hp 2 (fun k => if k = 0 then a else b) (by omega) (fun k _ => by split <;> assumption)
 rw [wins2] at c
 exact c

theorem Tryz.kBed (p : Pf) (hp : PSz p) (h : Rat) (hh : rd h ≤ 200) (hb : ∀ k, k ≤ p.n → Sz 200 (p.bd h k)) :
  Con Tryz.prog Tryz.L 37 [.agg (pfD p), .str (rt h)] (if p.win h = true then .tup [.sl (p.n + 1) (pts (lst (p.n + 1) (p.bd h))), .int .i64 0] else .tup [.sl 0 [], .int .i64 3]) := by
 have c1 := Tryz.kheight p hp h hh
 have c2 := Tryz.kbed p hp h (by omega)
 have hn4 := hp.n
 have c3 := Tryz.kplaces (p.n + 1) (p.bd h) (by omega) (fun k hk => hb k (by omega))
 simp only [pfD] at c1 c2 ⊢
 cases hw : p.win h with
 | true =>
   rw [hw] at c1
   simp only [if_true] at c1 ⊢
   refine rule37 Tryz.hL rfl rfl rfl ?_
   (simp only [pc37, rs37, oU, oC]; refine ev ?_; try exact ⟨⟩)
   refine callF_of c1 ?_
   (refine ev ?_; try exact ⟨⟩)
   refine callF_of c2 ?_
   (refine ev ?_; try exact ⟨⟩)
   refine callF_of c3 ?_
   (refine ev ?_; try exact ⟨⟩)
   rfl
 | false =>
   rw [hw] at c1
   simp only [Bool.false_eq_true, if_false] at c1 ⊢
   refine rule37 Tryz.hL rfl rfl rfl ?_
   (simp only [pc37, rs37, oU, oC]; refine ev ?_; try exact ⟨⟩)
   refine callF_of c1 ?_
   (refine ev ?_; try exact ⟨⟩)
   rfl
theorem Tryz.kLength (p : Pf) (hp : PSz p) (h : Rat) (hh : rd h ≤ 200) (hs : rd (sumN (p.ln h) p.n) ≤ 200) :
  Con Tryz.prog Tryz.L 39 [.agg (pfD p), .str (rt h)] (if p.win h = true then .tup [.str (rt (sumN (p.ln h) p.n)), .int .i64 0] else .tup [.str [], .int .i64 3]) := by
 have c1 := Tryz.kheight p hp h hh
 have c2 := Tryz.klen p hp h (by omega)
 have hn4 := hp.n
 have c3 := Tryz.ksum p.n (p.ln h) (by omega) (fun k hk => by have := rd_ln hp hh hk; omega)
 have c4 := Tryz.kresult _ hs
 simp only [pfD] at c1 c2 ⊢
 cases hw : p.win h with
 | true =>
   rw [hw] at c1
   simp only [if_true] at c1 ⊢
   refine rule39 Tryz.hL rfl rfl rfl ?_
   (simp only [pc39, rs39, oU, oC]; refine ev ?_; try exact ⟨⟩)
   refine callF_of c1 ?_
   (refine ev ?_; try exact ⟨⟩)
   refine callF_of c2 ?_
   (refine ev ?_; try exact ⟨⟩)
   refine callF_of c3 ?_
   (refine ev ?_; try exact ⟨⟩)
   refine callF_of c4 ?_
   (refine ev ?_; try exact ⟨⟩)
   rfl
 | false =>
   rw [hw] at c1
   simp only [Bool.false_eq_true, if_false] at c1 ⊢
   refine rule39 Tryz.hL rfl rfl rfl ?_
   (simp only [pc39, rs39, oU, oC]; refine ev ?_; try exact ⟨⟩)
   refine callF_of c1 ?_
   (refine ev ?_; try exact ⟨⟩)
   rfl

set_option maxHeartbeats 4000000 in
theorem Tryz.kArea (p : Pf) (hp : PSz p) (a b : Rat) (ha : rd a ≤ 200) (hb : rd b ≤ 200) (hs : rd ((sumN (p.ln a) p.n + sumN (p.ln b) p.n) * (1 / 2) * (b - a)) ≤ 200) :
  Con Tryz.prog Tryz.L 26 [.agg (pfD p), .str (rt a), .str (rt b)] (if (p.win a && p.win b) = true then (if a < b then .tup [.str (rt ((sumN (p.ln a) p.n + sumN (p.ln b) p.n) * (1 / 2) * (b - a))), .int .i64 0] else .tup [.str [], .int .i64 6]) else .tup [.str [], .int .i64 3]) := by
 have c1 := Tryz.kheight2 p hp a b ha hb
 have c2 := Tryz.klen p hp a (by omega)
 have d2 := Tryz.klen p hp b (by omega)
 have hn4 := hp.n
 have e1 := rd_sumN (f := p.ln a) (m := 311) (n := p.n) (fun k hk => rd_ln hp ha hk)
 have e2 := rd_sumN (f := p.ln b) (m := 311) (n := p.n) (fun k hk => rd_ln hp hb hk)
 have e3 : p.n * (311 + 1) ≤ 4 * 312 := Nat.mul_le_mul hn4 (by omega)
 have c3 := Tryz.ksum p.n (p.ln a) (by omega) (fun k hk => by have := rd_ln hp ha hk; omega)
 have d3 := Tryz.ksum p.n (p.ln b) (by omega) (fun k hk => by have := rd_ln hp hb hk; omega)
 have cm := Tryz.kmiddle (sumN (p.ln a) p.n) (sumN (p.ln b) p.n) (by omega) (by omega)
 have e4 := rd_add (sumN (p.ln a) p.n) (sumN (p.ln b) p.n)
 have e5 := rd_mul (sumN (p.ln a) p.n + sumN (p.ln b) p.n) (1 / 2)
 have e6 : rd (1 / 2 : Rat) ≤ 1 := by decide +kernel
 have e7 := rd_sub b a
 have c4 := Tryz.kresult _ hs
 have cc := Tryz.rcompare a b (by omega) (by omega)
 simp only [pfD] at c1 c2 d2 ⊢
 cases hw : (p.win a && p.win b) with
 | true =>
   rw [hw] at c1
   simp only [if_true] at c1 ⊢
   refine rule26 Tryz.hL (r := if a < b then _ else _) (by split <;> rfl) rfl rfl ?_
   (simp only [pc26, rs26, oU, oC]; refine ev ?_; try exact ⟨⟩)
   refine callF_of c1 ?_
   (refine ev ?_; try exact ⟨⟩)
   refine callF_of cc ?_
   (refine ev ?_; try exact ⟨⟩)
   refine ⟨fun h => ?_, fun h => ?_⟩
   ·have hab : ¬ a < b := fun z => by unfold cmpQ at h; rw [if_pos z] at h; omega
    rw [if_neg hab]; rfl
   ·have hab : a < b := by
     unfold cmpQ at h; split at h
     ·assumption
     ·split at h <;> omega
    rw [if_pos hab]
    refine callF_of c2 ?_
    (refine ev ?_; try exact ⟨⟩)
    refine callF_of c3 ?_
    (refine ev ?_; try exact ⟨⟩)
    refine callF_of d2 ?_
    (refine ev ?_; try exact ⟨⟩)
    refine callF_of d3 ?_
    (refine ev ?_; try exact ⟨⟩)
    refine callF_of cm ?_
    (refine ev ?_; try exact ⟨⟩)
    refine callF_of (Tryz.rsub b a (by omega) (by omega)) ?_
    (refine ev ?_; try exact ⟨⟩)
    refine callF_of (Tryz.rmul _ (b - a) (by omega) (by omega)) ?_
    (refine ev ?_; try exact ⟨⟩)
    refine callF_of c4 ?_
    (refine ev ?_; try exact ⟨⟩)
    rfl
 | false =>
   rw [hw] at c1
   simp only [Bool.false_eq_true, if_false] at c1 ⊢
   refine rule26 Tryz.hL rfl rfl rfl ?_
   (simp only [pc26, rs26, oU, oC]; refine ev ?_; try exact ⟨⟩)
   refine callF_of c1 ?_
   (refine ev ?_; try exact ⟨⟩)
   rfl

theorem Tryz.kDirection (t : Rat) (ht : rd t ≤ 200) (hd : Sz 200 (dirK t)) : Con Tryz.prog Tryz.L 14 [.str (rt t)] (.tup [ptD (dirK t), .int .i64 0]) := by
 have c1 := Tryz.rcheckQ t ht
 have c2 := Tryz.kdir t (by omega)
 have c3 := Tryz.kplace _ hd
 simp only [ptD] at c2 c3
 refine rule14 Tryz.hL rfl rfl rfl ?_
 simp only [ptD, pc14, rs14, oU, oC, evX, evY, evZ, forall_const, implies_true, initE, stepF, D.clean, mvF, moF, tkF, shF, ariF, ciF, catF, scF, ebF, eqF, eqOk, eqPr, enF, notF, ngF, cvF, csF, csbF, lenF, lenSF, ixF, iaF, PX.slot, iaAF, faF, ldF, D.mem, stF, bxF, mkSF, boundF, fldF, ixAF, mmF2, D.plain, D.isPure, optAll, D.dull, callVF, splice, D.cells, D.one, sets, resT, D.flat, D.flat0, D.simple, Nat.reduceBNe, Nat.reduceLT, reduceIte, Nat.reduceEqDiff, Nat.reduceAdd, Nat.reduceMul, Nat.reduceSub, Nat.reduceLeDiff, Int.reduceToNat, Int.reduceLT, Int.reduceLE, Int.reduceEq, Int.reduceNeg, Int.reduceSub, Int.reduceAdd, Int.reduceMul, stG_own]
 refine callF_of c1 ?_
 (refine ev ?_; try exact ⟨⟩)
 refine callF_of c2 ?_
 (refine ev ?_; try exact ⟨⟩)
 refine callF_of c3 ?_
 (refine ev ?_; try exact ⟨⟩)
 rfl
theorem ldC_ptsL {n k t : Nat} {f : Nat → Pt} {N : EP} {E : Env} : ldC true 2 (List.drop (k * 2) (pts (lst n f))) t N E = (k < n ∧ N (st1 E t (.agg (pD (f k))))) := by
 by_cases h : k < n
 ·obtain ⟨r, e⟩ := rows_at pD_len (lst_at f h)
  rw [e, ldC_agg]
  simp [pD, h]
 ·have e : List.drop (k * 2) (pts (lst n f)) = [] := List.drop_eq_nil_of_le (by rw [pts_len, lst_len]; omega)
  rw [e]
  simp [ldC, ofCells, h]
theorem ptsL_len (n : Nat) (f : Nat → Pt) : (pts (lst n f)).length = n * 2 := by rw [pts_len, lst_len]

/-- the points of a quadrilateral -/
def qd (p : Pf) (a b : Rat) (d : Nat) (k : Nat) : Pt := if k = 0 then p.bd a d else if k = 1 then p.bd a (d + 1) else if k = 2 then p.bd b (d + 1) else p.bd b d

set_option maxHeartbeats 4000000 in
theorem Tryz.kQuad (p : Pf) (hp : PSz p) (d : Int) (hd : inR .i64 d) (a b : Rat) (ha : rd a ≤ 200) (hb : rd b ≤ 200) (hs : ∀ k, k ≤ p.n → Sz 200 (p.bd a k) ∧ Sz 200 (p.bd b k)) :
  Con Tryz.prog Tryz.L 27 [.agg (pfD p), .int .i64 d, .agg [.str (rt a), .str (rt b)]] (if 0 ≤ d ∧ d < p.n then (if (p.win a && p.win b) = true then (if a < b then .tup [.sl 4 (pts (lst 4 (qd p a b d.toNat))), .int .i64 0] else .tup [.sl 0 [], .int .i64 6]) else .tup [.sl 0 [], .int .i64 3]) else .tup [.sl 0 [], .int .i64 3]) := by
 have c0 := Tryz.kcheck p hp
 have c1 := Tryz.kheight2 p hp a b ha hb
 have c2 := Tryz.kbed p hp a (by omega)
 have d2 := Tryz.kbed p hp b (by omega)
 have hn4 := hp.n
 have cc := Tryz.rcompare a b (by omega) (by omega)
 simp only [pfD] at c0 c1 c2 d2 ⊢
 refine rule27 Tryz.hL (by split <;> (try split) <;> (try split) <;> rfl) rfl rfl ?_
 (simp only [pc27, rs27, oU, oC]; refine ev ?_; try exact ⟨⟩)
 refine callF_of c0 ?_
 (refine ev ?_; try exact ⟨⟩)
 refine ⟨fun h1 => ⟨fun h2 => by rw [if_neg (by omega)]; rfl, fun h2 => ?_⟩, fun h1 => by rw [if_neg (by omega)]; rfl⟩
 obtain ⟨m, rfl⟩ : ∃ m : Nat, d = m := ⟨d.toNat, by omega⟩
 rw [if_pos ⟨by omega, by omega⟩]
 have hm : m < p.n := by omega
 cases hw : (p.win a && p.win b) with
 | false =>
   rw [hw] at c1
   simp only [Bool.false_eq_true, if_false] at c1 ⊢
   refine callF_of c1 ?_
   (refine ev ?_; try exact ⟨⟩)
   rfl
 | true =>
   rw [hw] at c1
   simp only [if_true] at c1 ⊢
   refine callF_of c1 ?_
   (refine ev ?_; try exact ⟨⟩)
   refine callF_of cc ?_
   (refine ev ?_; try exact ⟨⟩)
   refine ⟨fun h => ?_, fun h => ?_⟩
   ·have hab : ¬ a < b := fun z => by unfold cmpQ at h; rw [if_pos z] at h; omega
    rw [if_neg hab]; rfl
   ·have hab : a < b := by
     unfold cmpQ at h; split at h
     ·assumption
     ·split at h <;> omega
    rw [if_pos hab]
    refine callF_of c2 ?_
    (refine ev ?_; try exact ⟨⟩)
    refine callF_of d2 ?_
    have e1 : ((m : Int) + 1).toNat = m + 1 := by omega
    have c3 := Tryz.kplaces 4 (qd p a b m) (by omega) (fun k _ => by
     unfold qd
     split
     ·exact (hs m (by omega)).1
     ·split
      ·exact (hs (m + 1) (by omega)).1
      ·split
       ·exact (hs (m + 1) (by omega)).2
       ·exact (hs m (by omega)).2)
    simp only [evX, evY, evZ, forall_const, implies_true, initE, stepF, D.clean, mvF, moF, tkF, shF, ariF, ciF, catF, scF, ebF, eqF, eqOk, eqPr, enF, notF, ngF, cvF, csF, csbF, lenF, lenSF, ixF, iaF, PX.slot, iaAF, faF, ldF, D.mem, stF, bxF, mkSF, boundF, fldF, ixAF, mmF2, D.plain, D.isPure, optAll, D.dull, callVF, splice, D.cells, D.one, sets, resT, D.flat, D.flat0, D.simple, Nat.reduceBNe, Nat.reduceLT, reduceIte, Nat.reduceEqDiff, Nat.reduceAdd, Nat.reduceMul, Nat.reduceSub, Nat.reduceLeDiff, Int.reduceToNat, Int.reduceLT, Int.reduceLE, Int.reduceEq, Int.reduceNeg, Int.reduceSub, Int.reduceAdd, Int.reduceMul, stG_own, ldC_ptsL, ptsL_len, pD, e1]
    refine ⟨⟨by omega, by omega, by omega⟩, by omega, by omega, ⟨by omega, by omega, by omega⟩, by omega, by omega, ⟨by omega, by omega, by omega⟩, by omega, ⟨by omega, by omega, by omega⟩, by omega, ?_⟩
    refine callF_of c3 ?_
    (refine ev ?_; try exact ⟨⟩)
    rfl
end Go.Proofs

/-
 KINK: Axes and Reach. Own work.
-/
namespace Go.Proofs
open Go Go.Pi Go.RowKit Go.Ar Go.Ge Go.Kk

/-- the inner axes -/
def axI (p : Pf) : List D := rows axD (lst (p.n - 1) fun k => (p.at' (k + 1), p.ax (k + 1)))
theorem axI_len (p : Pf) : (axI p).length = (p.n - 1) * 4 := by unfold axI; rw [rows_length axD_len, lst_len]
theorem lst_cut {α : Type} (n a b : Nat) (f : Nat → α) (h : b ≤ n) (hab : a ≤ b) : ((lst n f).take b).drop a = lst (b - a) fun k => f (k + a) := by
 apply List.ext_getElem?
 intro i
 rw [List.getElem?_drop, List.getElem?_take]
 by_cases h1 : i < b - a
 ·rw [if_pos (by omega), lst_at _ (by omega), lst_at _ h1, Nat.add_comm]
 ·rw [if_neg (by omega), List.getElem?_eq_none (by rw [lst_len]; omega)]
theorem cut_axs (p : Pf) (h : 0 < p.n) : cut 4 1 p.n (axs p (p.n + 1)) = axI p := by
 unfold axs axI
 rw [cut_rows axD_len, lst_cut _ _ _ _ (by omega) (by omega)]
theorem ldC_axI {p : Pf} {j t : Nat} {N : EP} {E : Env} : ldC true 4 (List.take 4 (List.drop (j * 4) (axI p))) t N E = (j < p.n - 1 ∧ N (st1 E t (.agg (axD (p.at' (j + 1), p.ax (j + 1)))))) := by
 by_cases h : j < p.n - 1
 ·obtain ⟨r, e⟩ := rows_at axD_len (lst_at (fun k => (p.at' (k + 1), p.ax (k + 1))) h)
  unfold axI
  rw [e, ldC_agg]
  simp [axD, h]
 ·have e : List.drop (j * 4) (axI p) = [] := List.drop_eq_nil_of_le (by rw [axI_len]; omega)
  rw [e]
  simp [ldC, ofCells, h]

set_option maxHeartbeats 4000000 in
theorem Tryz.kAxes (p : Pf) (hp : PSz p) : Con Tryz.prog Tryz.L 19 [.agg (pfD p)] (.tup [.sl (p.n - 1) (axI p), .int .i64 0]) := by
 have c0 := Tryz.kcheck p hp
 have c1 := Tryz.kends p hp
 have hn4 := hp.n
 have hn0 := hp.n0
 have hl := axs_len p (p.n + 1)
 simp only [pfD] at c0 c1 ⊢
 refine rule19 Tryz.hL rfl rfl rfl ?_
 (simp only [pc19, rs19, oU, oC]; refine ev ?_; try exact ⟨⟩)
 refine callF_of c0 ?_
 (refine ev ?_; try exact ⟨⟩)
 refine callF_of c1 ?_
 (refine ev ?_; try exact ⟨⟩)
 have e1 : (((p.n + 1 : Nat) : Int) - 1).toNat = p.n := by omega
 have e2 : (((p.n + 1 : Nat) : Int) - 1) = (p.n : Int) := by omega
 have hl2 := axI_len p
 simp only [e1, cut_axs p hn0]
 refine ⟨⟨by omega, by omega⟩, by omega, by omega, by omega, fun h => ?_, fun h => ?_⟩
 ·have e3 : p.n - 1 = 0 := by omega
  have e4 : axI p = [] := List.eq_nil_of_length_eq_zero (by rw [axI_len]; omega)
  rw [e3, e4]; rfl
 ·refine loopF_of (fun E => ∃ k : Nat, k ≤ p.n - 1 ∧ E = [(5, .sl (p.n - 1) (axI p)), (23, .sl (p.n - 1) (axI p)), (24, .int .i64 ((p.n - 1 : Nat) : Int)), (25, .int .i64 k)])
   (fun E => match lk E 25 with | .int _ i => p.n - i.toNat | _ => 0) ⟨0, Nat.zero_le _, rfl⟩ ?_
  rintro _ ⟨k, hk, rfl⟩
  simp only [evX, evY, evZ, forall_const, implies_true, initE, stepF, D.clean, mvF, moF, tkF, shF, ariF, ciF, catF, scF, ebF, eqF, eqOk, eqPr, enF, notF, ngF, cvF, csF, csbF, lenF, lenSF, ixF, iaF, PX.slot, iaAF, faF, ldF, D.mem, stF, bxF, mkSF, boundF, fldF, ixAF, mmF2, D.plain, D.isPure, optAll, D.dull, callVF, splice, D.cells, D.one, sets, resT, D.flat, D.flat0, D.simple, Nat.reduceBNe, Nat.reduceLT, reduceIte, Nat.reduceEqDiff, Nat.reduceAdd, Nat.reduceMul, Nat.reduceSub, Nat.reduceLeDiff, Int.reduceToNat, Int.reduceLT, Int.reduceLE, Int.reduceEq, Int.reduceNeg, Int.reduceSub, Int.reduceAdd, Int.reduceMul, stG_own, ldC_axI, axD, hl2]
  refine ⟨fun h3 => ?_, fun h3 => ?_⟩
  ·have hk2 : k < p.n - 1 := by omega
   refine ⟨⟨by omega, by omega, by omega⟩, hk2, ?_⟩
   have ca := Tryz.ppoint (p.at' (k + 1)) ((hp.at' (k + 1) (by omega)).mono (by omega))
   have cb := Tryz.ppoint (p.ax (k + 1)) ((hp.ax (k + 1) (by omega)).mono (by omega))
   simp only [ptD] at ca cb
   refine callF_of ca ?_
   (refine ev ?_; try exact ⟨⟩)
   refine callF_of cb ?_
   (refine ev ?_; try exact ⟨⟩)
   exact ⟨by omega, ⟨k + 1, by omega, rfl⟩, by omega⟩
  ·rfl

/-! ### the reach -/
def optT : Option Rat → List UInt8
 | none => []
 | some q => rt q
def upB (o : Option Rat) (h : Rat) : Bool := match o with | none => true | some x => decide (x < h)
def dnB (o : Option Rat) (h : Rat) : Bool := match o with | none => true | some x => decide (h < x)
def rStep (p : Pf) (o : Option Rat × Option Rat) (k : Nat) : Option Rat × Option Rat :=
 if p.gr k = 0 then o else if 0 < p.gr k then (if upB o.1 (-p.l k / p.gr k) = true then (some (-p.l k / p.gr k), o.2) else o) else (if dnB o.2 (-p.l k / p.gr k) = true then (o.1, some (-p.l k / p.gr k)) else o)
def rch (p : Pf) : Nat → Option Rat × Option Rat
 | 0 => (none, none)
 | k + 1 => rStep p (rch p k) k
theorem optT_n : optT none = [] := rfl
theorem optT_s (q : Rat) : optT (some q) = rt q := rfl
theorem rt_nil (q : Rat) : (rt q = []) = False := propext ⟨fun h => rt_ne h, fun h => h.elim⟩
def OSz (o : Option Rat) : Prop := ∀ x, o = some x → rd x ≤ 110
theorem rch_sz {p : Pf} (hp : PSz p) : ∀ {k : Nat}, k ≤ p.n → OSz (rch p k).1 ∧ OSz (rch p k).2
 | 0, _ => ⟨(fun _ h => by cases h), (fun _ h => by cases h)⟩
 | k + 1, hk => by
   have ih := rch_sz hp (k := k) (by omega)
   have z : rd (-p.l k / p.gr k) ≤ 110 := by
    have h1 := rd_div (-p.l k) (p.gr k)
    rw [rd_neg] at h1
    have h2 := hp.l k (by omega)
    have h3 := hp.gr k (by omega)
    omega
   show OSz (rStep p (rch p k) k).1 ∧ OSz (rStep p (rch p k) k).2
   unfold rStep
   have hz : OSz (some (-p.l k / p.gr k)) := fun x h => by cases h; exact z
   split
   ·exact ih
   ·split
    ·split
     ·exact ⟨hz, ih.2⟩
     ·exact ih
    ·split
     ·exact ⟨ih.1, hz⟩
     ·exact ih
theorem sgn_gt (q : Rat) : 0 < q.num.sign ↔ 0 < q := by
 rcases sgn_cases q with ⟨h1, _, h3⟩ | ⟨h1, _, h3⟩ | ⟨h1, _, h3⟩ <;> rw [h3] <;> grind
theorem sgn_lt (q : Rat) : q.num.sign < 0 ↔ q < 0 := by
 rcases sgn_cases q with ⟨h1, _, h3⟩ | ⟨h1, _, h3⟩ | ⟨h1, _, h3⟩ <;> rw [h3] <;> grind
theorem cmp_gt {a b : Rat} : 0 < cmpQ a b ↔ b < a := by
 unfold cmpQ
 split
 ·rename_i h; exact ⟨fun z => by omega, fun z => by grind⟩
 ·split
  ·rename_i h; exact ⟨fun _ => h, fun _ => by omega⟩
  ·rename_i h; exact ⟨fun z => by omega, fun z => absurd z h⟩
theorem cmp_lt {a b : Rat} : cmpQ a b < 0 ↔ a < b := by
 unfold cmpQ
 split
 ·rename_i h; exact ⟨fun _ => h, fun _ => by omega⟩
 ·rename_i h0
  split
  ·rename_i h; exact ⟨fun z => by omega, fun z => absurd z h0⟩
  ·rename_i h; exact ⟨fun z => by omega, fun z => absurd z h0⟩

set_option maxHeartbeats 8000000 in
theorem Tryz.kReach (p : Pf) (hp : PSz p) : Con Tryz.prog Tryz.L 20 [.agg (pfD p)] (.tup [.str (optT (rch p p.n).1), .str (optT (rch p p.n).2), .int .i64 0]) := by
 have c0 := Tryz.kcheck p hp
 have c1 := Tryz.kgrow p hp
 have hn4 := hp.n
 simp only [pfD] at c0 c1 ⊢
 refine rule20 Tryz.hL rfl rfl rfl ?_
 (simp only [pc20, rs20, oU, oC]; refine ev ?_; try exact ⟨⟩)
 refine callF_of c0 ?_
 (refine ev ?_; try exact ⟨⟩)
 refine callF_of c1 ?_
 (refine ev ?_; try exact ⟨⟩)
 refine loopF_of (fun E => ∃ k : Nat, k ≤ p.n ∧ E = [(1, .box true [.str (rt p.s.1), .str (rt p.s.2), .sl p.n (nms p.n p.t), .sl p.n (nms p.n p.l)]), (2, .str (optT (rch p k).1)), (3, .str (optT (rch p k).2)), (17, .sl p.n (nms p.n p.gr)), (18, .int .i64 p.n), (19, .int .i64 k)])
  (fun E => match lk E 19 with | .int _ i => p.n - i.toNat | _ => 0) ⟨0, Nat.zero_le _, rfl⟩ ?_
 rintro _ ⟨k, hk, rfl⟩
 simp only [evX, evY, evZ, forall_const, implies_true, initE, stepF, D.clean, mvF, moF, tkF, shF, ariF, ciF, catF, scF, ebF, eqF, eqOk, eqPr, enF, notF, ngF, cvF, csF, csbF, lenF, lenSF, ixF, iaF, PX.slot, iaAF, faF, ldF, D.mem, stF, bxF, mkSF, boundF, fldF, ixAF, mmF2, D.plain, D.isPure, optAll, D.dull, callVF, splice, D.cells, D.one, sets, resT, D.flat, D.flat0, D.simple, Nat.reduceBNe, Nat.reduceLT, reduceIte, Nat.reduceEqDiff, Nat.reduceAdd, Nat.reduceMul, Nat.reduceSub, Nat.reduceLeDiff, Int.reduceToNat, Int.reduceLT, Int.reduceLE, Int.reduceEq, Int.reduceNeg, Int.reduceSub, Int.reduceAdd, Int.reduceMul, stG_own, ldC_nms, nms_len]
 refine ⟨fun h3 => ?_, fun h3 => ?_⟩
 ·have hk2 : k < p.n := by omega
  refine ⟨⟨by omega, by omega, by omega⟩, hk2, ?_⟩
  have z1 := hp.l k hk2
  have z2 := hp.gr k hk2
  have z3 := rd_div (-p.l k) (p.gr k)
  rw [rd_neg] at z3
  obtain ⟨s1, s2⟩ := rch_sz hp (k := k) (by omega)
  have er : rch p (k + 1) = rStep p (rch p k) k := rfl
  generalize rch p k = o at *
  obtain ⟨o1, o2⟩ := o
  simp only [rt_zero]
  refine ⟨fun h => ⟨by omega, ⟨k + 1, by omega, by rw [er, rStep, if_pos h], by rw [er, rStep, if_pos h], rfl⟩, by omega⟩, fun h => ⟨⟨by omega, by omega, by omega⟩, hk2, ?_⟩⟩
  refine callF_of (Tryz.rneg (p.l k) (by omega)) ?_
  (refine ev ?_; try exact ⟨⟩)
  refine callF_of (Tryz.kquo (-p.l k) (p.gr k) (by rw [rd_neg]; omega) (by omega) h) ?_
  (refine ev ?_; try exact ⟨⟩)
  refine callF_of (Tryz.rsign (p.gr k) (by omega)) ?_
  simp only [evX, evY, evZ, forall_const, implies_true, initE, stepF, D.clean, mvF, moF, tkF, shF, ariF, ciF, catF, scF, ebF, eqF, eqOk, eqPr, enF, notF, ngF, cvF, csF, csbF, lenF, lenSF, ixF, iaF, PX.slot, iaAF, faF, ldF, D.mem, stF, bxF, mkSF, boundF, fldF, ixAF, mmF2, D.plain, D.isPure, optAll, D.dull, callVF, splice, D.cells, D.one, sets, resT, D.flat, D.flat0, D.simple, Nat.reduceBNe, Nat.reduceLT, reduceIte, Nat.reduceEqDiff, Nat.reduceAdd, Nat.reduceMul, Nat.reduceSub, Nat.reduceLeDiff, Int.reduceToNat, Int.reduceLT, Int.reduceLE, Int.reduceEq, Int.reduceNeg, Int.reduceSub, Int.reduceAdd, Int.reduceMul, stG_own, sgn_gt]
  generalize hq : -p.l k / p.gr k = q at *
  by_cases hg : 0 < p.gr k
  ·have er2 : rch p (k + 1) = if upB o1 q = true then (some q, o2) else (o1, o2) := by rw [er, rStep, if_neg h, if_pos hg, hq]
   cases o1 with
   | none =>
     simp only [optT_n, hg, evX, evY, evZ, forall_const, implies_true, initE, stepF, D.clean, mvF, moF, tkF, shF, ariF, ciF, catF, scF, ebF, eqF, eqOk, eqPr, enF, notF, ngF, cvF, csF, csbF, lenF, lenSF, ixF, iaF, PX.slot, iaAF, faF, ldF, D.mem, stF, bxF, mkSF, boundF, fldF, ixAF, mmF2, D.plain, D.isPure, optAll, D.dull, callVF, splice, D.cells, D.one, sets, resT, D.flat, D.flat0, D.simple, Nat.reduceBNe, Nat.reduceLT, reduceIte, Nat.reduceEqDiff, Nat.reduceAdd, Nat.reduceMul, Nat.reduceSub, Nat.reduceLeDiff, Int.reduceToNat, Int.reduceLT, Int.reduceLE, Int.reduceEq, Int.reduceNeg, Int.reduceSub, Int.reduceAdd, Int.reduceMul, stG_own]
     exact ⟨by omega, ⟨k + 1, by omega, by rw [er2]; rfl, by rw [er2]; rfl, rfl⟩, by omega⟩
   | some x =>
     have z4 : rd x ≤ 110 := s1 x rfl
     simp only [optT_s, rt_nil, hg, evX, evY, evZ, forall_const, implies_true, initE, stepF, D.clean, mvF, moF, tkF, shF, ariF, ciF, catF, scF, ebF, eqF, eqOk, eqPr, enF, notF, ngF, cvF, csF, csbF, lenF, lenSF, ixF, iaF, PX.slot, iaAF, faF, ldF, D.mem, stF, bxF, mkSF, boundF, fldF, ixAF, mmF2, D.plain, D.isPure, optAll, D.dull, callVF, splice, D.cells, D.one, sets, resT, D.flat, D.flat0, D.simple, Nat.reduceBNe, Nat.reduceLT, reduceIte, Nat.reduceEqDiff, Nat.reduceAdd, Nat.reduceMul, Nat.reduceSub, Nat.reduceLeDiff, Int.reduceToNat, Int.reduceLT, Int.reduceLE, Int.reduceEq, Int.reduceNeg, Int.reduceSub, Int.reduceAdd, Int.reduceMul, stG_own]
     refine callF_of (Tryz.rcompare q x (by omega) (by omega)) ?_
     simp only [evX, evY, evZ, forall_const, implies_true, initE, stepF, D.clean, mvF, moF, tkF, shF, ariF, ciF, catF, scF, ebF, eqF, eqOk, eqPr, enF, notF, ngF, cvF, csF, csbF, lenF, lenSF, ixF, iaF, PX.slot, iaAF, faF, ldF, D.mem, stF, bxF, mkSF, boundF, fldF, ixAF, mmF2, D.plain, D.isPure, optAll, D.dull, callVF, splice, D.cells, D.one, sets, resT, D.flat, D.flat0, D.simple, Nat.reduceBNe, Nat.reduceLT, reduceIte, Nat.reduceEqDiff, Nat.reduceAdd, Nat.reduceMul, Nat.reduceSub, Nat.reduceLeDiff, Int.reduceToNat, Int.reduceLT, Int.reduceLE, Int.reduceEq, Int.reduceNeg, Int.reduceSub, Int.reduceAdd, Int.reduceMul, stG_own, cmp_gt]
     refine ⟨fun h5 => ?_, fun h5 => ?_⟩
     ·exact ⟨by omega, ⟨k + 1, by omega, by rw [er2, if_pos (by simp [upB, h5])]; rfl, by rw [er2, if_pos (by simp [upB, h5])], rfl⟩, by omega⟩
     ·have er3 : rch p (k + 1) = (some x, o2) := by rw [er2, if_neg (by simp [upB, h5])]
      have hg3 : ¬ p.gr k < 0 := by grind
      refine callF_of (Tryz.rsign (p.gr k) (by omega)) ?_
      simp only [evX, evY, evZ, forall_const, implies_true, initE, stepF, D.clean, mvF, moF, tkF, shF, ariF, ciF, catF, scF, ebF, eqF, eqOk, eqPr, enF, notF, ngF, cvF, csF, csbF, lenF, lenSF, ixF, iaF, PX.slot, iaAF, faF, ldF, D.mem, stF, bxF, mkSF, boundF, fldF, ixAF, mmF2, D.plain, D.isPure, optAll, D.dull, callVF, splice, D.cells, D.one, sets, resT, D.flat, D.flat0, D.simple, Nat.reduceBNe, Nat.reduceLT, reduceIte, Nat.reduceEqDiff, Nat.reduceAdd, Nat.reduceMul, Nat.reduceSub, Nat.reduceLeDiff, Int.reduceToNat, Int.reduceLT, Int.reduceLE, Int.reduceEq, Int.reduceNeg, Int.reduceSub, Int.reduceAdd, Int.reduceMul, stG_own, sgn_lt, hg3]
      exact ⟨by omega, ⟨k + 1, by omega, by rw [er3]; rfl, by rw [er3], rfl⟩, by omega⟩
  ·have hg2 : p.gr k < 0 := by grind
   have er2 : rch p (k + 1) = if dnB o2 q = true then (o1, some q) else (o1, o2) := by rw [er, rStep, if_neg h, if_neg hg, hq]
   simp only [hg, evX, evY, evZ, forall_const, implies_true, initE, stepF, D.clean, mvF, moF, tkF, shF, ariF, ciF, catF, scF, ebF, eqF, eqOk, eqPr, enF, notF, ngF, cvF, csF, csbF, lenF, lenSF, ixF, iaF, PX.slot, iaAF, faF, ldF, D.mem, stF, bxF, mkSF, boundF, fldF, ixAF, mmF2, D.plain, D.isPure, optAll, D.dull, callVF, splice, D.cells, D.one, sets, resT, D.flat, D.flat0, D.simple, Nat.reduceBNe, Nat.reduceLT, reduceIte, Nat.reduceEqDiff, Nat.reduceAdd, Nat.reduceMul, Nat.reduceSub, Nat.reduceLeDiff, Int.reduceToNat, Int.reduceLT, Int.reduceLE, Int.reduceEq, Int.reduceNeg, Int.reduceSub, Int.reduceAdd, Int.reduceMul, stG_own]
   refine callF_of (Tryz.rsign (p.gr k) (by omega)) ?_
   simp only [evX, evY, evZ, forall_const, implies_true, initE, stepF, D.clean, mvF, moF, tkF, shF, ariF, ciF, catF, scF, ebF, eqF, eqOk, eqPr, enF, notF, ngF, cvF, csF, csbF, lenF, lenSF, ixF, iaF, PX.slot, iaAF, faF, ldF, D.mem, stF, bxF, mkSF, boundF, fldF, ixAF, mmF2, D.plain, D.isPure, optAll, D.dull, callVF, splice, D.cells, D.one, sets, resT, D.flat, D.flat0, D.simple, Nat.reduceBNe, Nat.reduceLT, reduceIte, Nat.reduceEqDiff, Nat.reduceAdd, Nat.reduceMul, Nat.reduceSub, Nat.reduceLeDiff, Int.reduceToNat, Int.reduceLT, Int.reduceLE, Int.reduceEq, Int.reduceNeg, Int.reduceSub, Int.reduceAdd, Int.reduceMul, stG_own, sgn_lt]
   cases o2 with
   | none =>
     simp only [optT_n, hg2, evX, evY, evZ, forall_const, implies_true, initE, stepF, D.clean, mvF, moF, tkF, shF, ariF, ciF, catF, scF, ebF, eqF, eqOk, eqPr, enF, notF, ngF, cvF, csF, csbF, lenF, lenSF, ixF, iaF, PX.slot, iaAF, faF, ldF, D.mem, stF, bxF, mkSF, boundF, fldF, ixAF, mmF2, D.plain, D.isPure, optAll, D.dull, callVF, splice, D.cells, D.one, sets, resT, D.flat, D.flat0, D.simple, Nat.reduceBNe, Nat.reduceLT, reduceIte, Nat.reduceEqDiff, Nat.reduceAdd, Nat.reduceMul, Nat.reduceSub, Nat.reduceLeDiff, Int.reduceToNat, Int.reduceLT, Int.reduceLE, Int.reduceEq, Int.reduceNeg, Int.reduceSub, Int.reduceAdd, Int.reduceMul, stG_own]
     exact ⟨by omega, ⟨k + 1, by omega, by rw [er2]; rfl, by rw [er2]; rfl, rfl⟩, by omega⟩
   | some x =>
     have z4 : rd x ≤ 110 := s2 x rfl
     simp only [optT_s, rt_nil, hg2, evX, evY, evZ, forall_const, implies_true, initE, stepF, D.clean, mvF, moF, tkF, shF, ariF, ciF, catF, scF, ebF, eqF, eqOk, eqPr, enF, notF, ngF, cvF, csF, csbF, lenF, lenSF, ixF, iaF, PX.slot, iaAF, faF, ldF, D.mem, stF, bxF, mkSF, boundF, fldF, ixAF, mmF2, D.plain, D.isPure, optAll, D.dull, callVF, splice, D.cells, D.one, sets, resT, D.flat, D.flat0, D.simple, Nat.reduceBNe, Nat.reduceLT, reduceIte, Nat.reduceEqDiff, Nat.reduceAdd, Nat.reduceMul, Nat.reduceSub, Nat.reduceLeDiff, Int.reduceToNat, Int.reduceLT, Int.reduceLE, Int.reduceEq, Int.reduceNeg, Int.reduceSub, Int.reduceAdd, Int.reduceMul, stG_own]
     refine callF_of (Tryz.rcompare q x (by omega) (by omega)) ?_
     simp only [evX, evY, evZ, forall_const, implies_true, initE, stepF, D.clean, mvF, moF, tkF, shF, ariF, ciF, catF, scF, ebF, eqF, eqOk, eqPr, enF, notF, ngF, cvF, csF, csbF, lenF, lenSF, ixF, iaF, PX.slot, iaAF, faF, ldF, D.mem, stF, bxF, mkSF, boundF, fldF, ixAF, mmF2, D.plain, D.isPure, optAll, D.dull, callVF, splice, D.cells, D.one, sets, resT, D.flat, D.flat0, D.simple, Nat.reduceBNe, Nat.reduceLT, reduceIte, Nat.reduceEqDiff, Nat.reduceAdd, Nat.reduceMul, Nat.reduceSub, Nat.reduceLeDiff, Int.reduceToNat, Int.reduceLT, Int.reduceLE, Int.reduceEq, Int.reduceNeg, Int.reduceSub, Int.reduceAdd, Int.reduceMul, stG_own, cmp_lt]
     refine ⟨fun h5 => ?_, fun h5 => ?_⟩
     ·exact ⟨by omega, ⟨k + 1, by omega, by rw [er2, if_pos (by simp [dnB, h5])], by rw [er2, if_pos (by simp [dnB, h5])]; rfl, rfl⟩, by omega⟩
     ·have er3 : rch p (k + 1) = (o1, some x) := by rw [er2, if_neg (by simp [dnB, h5])]
      exact ⟨by omega, ⟨k + 1, by omega, by rw [er3], by rw [er3]; rfl, rfl⟩, by omega⟩
 ·obtain rfl : k = p.n := by omega
  obtain ⟨s1, s2⟩ := rch_sz hp (k := p.n) (by omega)
  generalize rch p p.n = o at *
  obtain ⟨o1, o2⟩ := o
  simp only at s1 s2 ⊢
  refine loopF_of (fun E => ∃ k : Nat, k ≤ 2 ∧ E = [(2, .str (optT o1)), (3, .str (optT o2)), (67, .own true 22 2 [.str (optT o1), .str (optT o2)]), (68, .int .i64 2), (69, .int .i64 k)])
   (fun E => match lk E 69 with | .int _ i => 2 - i.toNat | _ => 0) ⟨0, Nat.zero_le _, rfl⟩ ?_
  rintro _ ⟨k, hk, rfl⟩
  obtain rfl | rfl | rfl : k = 0 ∨ k = 1 ∨ k = 2 := by omega
  ·cases o1 with
   | none =>
     simp only [optT_n, evX, evY, evZ, forall_const, implies_true, initE, stepF, D.clean, mvF, moF, tkF, shF, ariF, ciF, catF, scF, ebF, eqF, eqOk, eqPr, enF, notF, ngF, cvF, csF, csbF, lenF, lenSF, ixF, iaF, PX.slot, iaAF, faF, ldF, D.mem, stF, bxF, mkSF, boundF, fldF, ixAF, mmF2, D.plain, D.isPure, optAll, D.dull, callVF, splice, D.cells, D.one, sets, resT, D.flat, D.flat0, D.simple, Nat.reduceBNe, Nat.reduceLT, reduceIte, Nat.reduceEqDiff, Nat.reduceAdd, Nat.reduceMul, Nat.reduceSub, Nat.reduceLeDiff, Int.reduceToNat, Int.reduceLT, Int.reduceLE, Int.reduceEq, Int.reduceNeg, Int.reduceSub, Int.reduceAdd, Int.reduceMul, stG_own]
     exact ⟨fun _ => ⟨by decide, by decide, ⟨1, by omega, rfl⟩, by decide⟩, fun h => absurd (by decide) h⟩
   | some x =>
     have z : rd x ≤ 110 := s1 x rfl
     simp only [optT_s, rt_nil, evX, evY, evZ, forall_const, implies_true, initE, stepF, D.clean, mvF, moF, tkF, shF, ariF, ciF, catF, scF, ebF, eqF, eqOk, eqPr, enF, notF, ngF, cvF, csF, csbF, lenF, lenSF, ixF, iaF, PX.slot, iaAF, faF, ldF, D.mem, stF, bxF, mkSF, boundF, fldF, ixAF, mmF2, D.plain, D.isPure, optAll, D.dull, callVF, splice, D.cells, D.one, sets, resT, D.flat, D.flat0, D.simple, Nat.reduceBNe, Nat.reduceLT, reduceIte, Nat.reduceEqDiff, Nat.reduceAdd, Nat.reduceMul, Nat.reduceSub, Nat.reduceLeDiff, Int.reduceToNat, Int.reduceLT, Int.reduceLE, Int.reduceEq, Int.reduceNeg, Int.reduceSub, Int.reduceAdd, Int.reduceMul, stG_own]
     refine ⟨fun _ => ⟨by decide, ?_⟩, fun h => absurd (by decide) h⟩
     refine callF_of (Tryz.rcheckQ x (by omega)) ?_
     (refine ev ?_; try exact ⟨⟩)
     exact ⟨by decide, ⟨1, by omega, rfl⟩, by decide⟩
  ·cases o2 with
   | none =>
     simp only [optT_n, evX, evY, evZ, forall_const, implies_true, initE, stepF, D.clean, mvF, moF, tkF, shF, ariF, ciF, catF, scF, ebF, eqF, eqOk, eqPr, enF, notF, ngF, cvF, csF, csbF, lenF, lenSF, ixF, iaF, PX.slot, iaAF, faF, ldF, D.mem, stF, bxF, mkSF, boundF, fldF, ixAF, mmF2, D.plain, D.isPure, optAll, D.dull, callVF, splice, D.cells, D.one, sets, resT, D.flat, D.flat0, D.simple, Nat.reduceBNe, Nat.reduceLT, reduceIte, Nat.reduceEqDiff, Nat.reduceAdd, Nat.reduceMul, Nat.reduceSub, Nat.reduceLeDiff, Int.reduceToNat, Int.reduceLT, Int.reduceLE, Int.reduceEq, Int.reduceNeg, Int.reduceSub, Int.reduceAdd, Int.reduceMul, stG_own]
     exact ⟨fun _ => ⟨by decide, by decide, ⟨2, by omega, rfl⟩, by decide⟩, fun h => absurd (by decide) h⟩
   | some x =>
     have z : rd x ≤ 110 := s2 x rfl
     simp only [optT_s, rt_nil, evX, evY, evZ, forall_const, implies_true, initE, stepF, D.clean, mvF, moF, tkF, shF, ariF, ciF, catF, scF, ebF, eqF, eqOk, eqPr, enF, notF, ngF, cvF, csF, csbF, lenF, lenSF, ixF, iaF, PX.slot, iaAF, faF, ldF, D.mem, stF, bxF, mkSF, boundF, fldF, ixAF, mmF2, D.plain, D.isPure, optAll, D.dull, callVF, splice, D.cells, D.one, sets, resT, D.flat, D.flat0, D.simple, Nat.reduceBNe, Nat.reduceLT, reduceIte, Nat.reduceEqDiff, Nat.reduceAdd, Nat.reduceMul, Nat.reduceSub, Nat.reduceLeDiff, Int.reduceToNat, Int.reduceLT, Int.reduceLE, Int.reduceEq, Int.reduceNeg, Int.reduceSub, Int.reduceAdd, Int.reduceMul, stG_own]
     refine ⟨fun _ => ⟨by decide, ?_⟩, fun h => absurd (by decide) h⟩
     refine callF_of (Tryz.rcheckQ x (by omega)) ?_
     (refine ev ?_; try exact ⟨⟩)
     exact ⟨by decide, ⟨2, by omega, rfl⟩, by decide⟩
  ·(refine ev ?_; try exact ⟨⟩)
   exact ⟨fun h => absurd h (by decide), fun _ => rfl⟩
end Go.Proofs

/-
 KINK: Fold and Unfold. Own work.
-/
namespace Go.Proofs
open Go Go.Pi Go.RowKit Go.Ar Go.Ge Go.Kk

theorem Tryz.cuUnfold : ∀ c, Tryz.f24.body = some c → ∀ q ∈ cusL c pc24, CusOk Tryz.prog Tryz.L q.1 q.2.1 q.2.2 := by
 intro c hc q hq
 cases Option.some.inj hc
 simp only [pc24, cusL, List.nil_append, List.append_nil, List.mem_singleton, List.cons_append] at hq
 subst hq
 exact seqT_ok Tryz.hL Tryz.seqDom (by kernel_rfl)

def foldD (o : Option Pt) : D := match o with
 | some q => .tup [ptD q, .int .i64 0]
 | none => .tup [.agg [.str [], .str []], .int .i64 28]
theorem cut_nms {n k : Nat} {f : Nat → Rat} (h : k ≤ n) : cut 1 0 k (nms n f) = nms k f := by
 have e := lst_cut n 0 k (fun k => D.str (rt (f k))) h (Nat.zero_le _)
 have h1 : k * 1 = k := Nat.mul_one k
 unfold cut
 simp only [h1]
 exact e

def unfD (o : Option Pt) : D := match o with
 | some q => .tup [ptD q, .bool true, .int .i64 0]
 | none => .tup [.agg [.str [], .str []], .bool false, .int .i64 0]

set_option maxHeartbeats 8000000 in
theorem Tryz.kUnfold (p : Pf) (hp : PSz p) (q : Pt) (hq : Sz 200 q) (hh : ∀ k, k < p.n → rd (p.hK q k) ≤ 300) (hz : ∀ k, k < p.n → p.inK q k = true → Sz 200 (sumN (p.ln (p.hK q k)) k + p.xK q k, p.hK q k)) :
  Con Tryz.prog Tryz.L 24 [.agg (pfD p), ptD q] (unfD (p.ugo q p.n 0)) := by
 have c0 := Tryz.kcheck p hp
 have c1 := Tryz.ppoint q hq
 have cd := Tryz.cdomains (L := Tryz.L) p
 have hn4 := hp.n
 have hal : aliasOf (unfD (p.ugo q p.n 0)) = none := by cases p.ugo q p.n 0 <;> rfl
 simp only [pfD, ptD] at c0 c1 cd ⊢
 refine rule24 Tryz.hL (fun q hq => by simp [PC.backs, pc24] at hq) Tryz.cuUnfold hal rfl rfl ?_
 (simp only [pc24, rs24, oU, oC]; refine ev ?_; try exact ⟨⟩)
 refine callF_of c0 ?_
 (refine ev ?_; try exact ⟨⟩)
 refine callF_of c1 ?_
 (refine ev ?_; try exact ⟨⟩)
 refine callF_of cd ?_
 (refine ev ?_; try exact ⟨⟩)
 refine seqT_of (lst p.n fun k => .agg (dmD (p.dm k))) (fun k E1 => p.ugo q p.n 0 = p.ugo q (p.n - k) k ∧ k ≤ p.n ∧ E1 = [(2, .box true [.str (rt p.s.1), .str (rt p.s.2), .sl p.n (nms p.n p.t), .sl p.n (nms p.n p.l)]), (3, .box true [.str (rt q.1), .str (rt q.2)]), (4, .box true [.str [], .str []]), (5, .box true [.bool false]), (6, .box true [.int .i64 0]), (29, .clo 115 [.pt (pfD p)])]) rfl ⟨p, rfl, hp, rfl⟩ ⟨rfl, by omega, rfl⟩ ?_ ?_ ?_
 ·rintro k E1 ⟨_, _, rfl⟩; rfl
 ·rintro E1 ⟨he, _, rfl⟩
  rw [lst_len] at he
  (refine ev ?_; try exact ⟨⟩)
  rw [he, Nat.sub_self]
  rfl
 ·rintro k E1 d hd ⟨he, hk0, rfl⟩
  obtain ⟨hk, rfl⟩ := lst_some hd
  refine ⟨rfl, ?_⟩
  simp only [dmD, Pf.dm, evX, evY, evZ, forall_const, implies_true, initE, stepF, D.clean, mvF, moF, tkF, shF, ariF, ciF, catF, scF, ebF, eqF, eqOk, eqPr, enF, notF, ngF, cvF, csF, csbF, lenF, lenSF, ixF, iaF, PX.slot, iaAF, faF, ldF, D.mem, stF, bxF, mkSF, boundF, fldF, ixAF, mmF2, D.plain, D.isPure, optAll, D.dull, callVF, splice, D.cells, D.one, sets, resT, D.flat, D.flat0, D.simple, Nat.reduceBNe, Nat.reduceLT, reduceIte, Nat.reduceEqDiff, Nat.reduceAdd, Nat.reduceMul, Nat.reduceSub, Nat.reduceLeDiff, Int.reduceToNat, Int.reduceLT, Int.reduceLE, Int.reduceEq, Int.reduceNeg, Int.reduceSub, Int.reduceAdd, Int.reduceMul, stG_own, asgQ_nrm]
  have hm : p.n - k = (p.n - (k + 1)) + 1 := by omega
  have z0 := hh k hk
  have s1 := hq.mn (hp.at' k hk0)
  have ca := Tryz.kminus q (p.at' k) (hq.mono (by omega)) ((hp.at' k hk0).mono (by omega))
  have cb := Tryz.kdot (nrm (p.t k)) (Kk.mn q (p.at' k)) ((hp.nrm hk).mono (by omega)) (s1.mono (by omega))
  have cw := Tryz.kwithin p hp (p.hK q k) (by omega)
  simp only [pfD, ptD] at ca cb cw
  refine callF_of ca ?_
  (refine ev ?_; try exact ⟨⟩)
  refine callF_of cb ?_
  (refine ev ?_; try exact ⟨⟩)
  refine callF_of cw ?_
  cases hw : p.win (p.hK q k) with
  | false =>
    simp only [evX, evY, evZ, forall_const, implies_true, initE, stepF, D.clean, mvF, moF, tkF, shF, ariF, ciF, catF, scF, ebF, eqF, eqOk, eqPr, enF, notF, ngF, cvF, csF, csbF, lenF, lenSF, ixF, iaF, PX.slot, iaAF, faF, ldF, D.mem, stF, bxF, mkSF, boundF, fldF, ixAF, mmF2, D.plain, D.isPure, optAll, D.dull, callVF, splice, D.cells, D.one, sets, resT, D.flat, D.flat0, D.simple, Nat.reduceBNe, Nat.reduceLT, reduceIte, Nat.reduceEqDiff, Nat.reduceAdd, Nat.reduceMul, Nat.reduceSub, Nat.reduceLeDiff, Int.reduceToNat, Int.reduceLT, Int.reduceLE, Int.reduceEq, Int.reduceNeg, Int.reduceSub, Int.reduceAdd, Int.reduceMul, stG_own, bodQ_nrm]
    exact ⟨by rw [he, hm, Pf.ugo, if_neg (by simp [Pf.inK, hw])], by omega⟩
  | true =>
    have cd2 := Tryz.kbed p hp (p.hK q k) (by omega)
    have s2 : Sz 501 (p.bd (p.hK q k) k) := ((hp.at' k hk0).pl (hp.ax k hk0) z0).mono (by omega)
    have ce := Tryz.kminus q (p.bd (p.hK q k) k) (hq.mono (by omega)) (s2.mono (by omega))
    have s3 := hq.mn s2
    have cf := Tryz.kdot (dirK (p.t k)) (Kk.mn q (p.bd (p.hK q k) k)) ((hp.dir hk).mono (by omega)) (s3.mono (by omega))
    have z1 : rd (p.xK q k) ≤ 1495 := Nat.le_trans (rd_dt (hp.dir hk) s3) (by omega)
    have cg := Tryz.klen p hp (p.hK q k) (by omega)
    have z2 := rd_ln hp z0 hk
    have zs := rd_sumN (f := p.ln (p.hK q k)) (m := 411) (n := k) (fun j hj => rd_ln hp z0 (by omega))
    have zk : k * (411 + 1) ≤ 3 * 412 := Nat.mul_le_mul (by omega) (by omega)
    have cs := Tryz.ksum k (p.ln (p.hK q k)) (by omega) (fun j hj => by have := rd_ln hp z0 (k := j) (by omega); omega)
    simp only [pfD, ptD] at cd2 ce cf cg
    (refine ev ?_; try exact ⟨⟩)
    refine callF_of cd2 ?_
    simp only [evX, evY, evZ, forall_const, implies_true, initE, stepF, D.clean, mvF, moF, tkF, shF, ariF, ciF, catF, scF, ebF, eqF, eqOk, eqPr, enF, notF, ngF, cvF, csF, csbF, lenF, lenSF, ixF, iaF, PX.slot, iaAF, faF, ldF, D.mem, stF, bxF, mkSF, boundF, fldF, ixAF, mmF2, D.plain, D.isPure, optAll, D.dull, callVF, splice, D.cells, D.one, sets, resT, D.flat, D.flat0, D.simple, Nat.reduceBNe, Nat.reduceLT, reduceIte, Nat.reduceEqDiff, Nat.reduceAdd, Nat.reduceMul, Nat.reduceSub, Nat.reduceLeDiff, Int.reduceToNat, Int.reduceLT, Int.reduceLE, Int.reduceEq, Int.reduceNeg, Int.reduceSub, Int.reduceAdd, Int.reduceMul, stG_own, ldC_ptsL, ptsL_len, pD]
    refine ⟨⟨by omega, by omega, by omega⟩, by omega, ?_⟩
    refine callF_of ce ?_
    (refine ev ?_; try exact ⟨⟩)
    refine callF_of cf ?_
    (refine ev ?_; try exact ⟨⟩)
    refine callF_of cg ?_
    (refine ev ?_; try exact ⟨⟩)
    refine callF_of (Tryz.rsign (p.xK q k) (by omega)) ?_
    simp only [evX, evY, evZ, forall_const, implies_true, initE, stepF, D.clean, mvF, moF, tkF, shF, ariF, ciF, catF, scF, ebF, eqF, eqOk, eqPr, enF, notF, ngF, cvF, csF, csbF, lenF, lenSF, ixF, iaF, PX.slot, iaAF, faF, ldF, D.mem, stF, bxF, mkSF, boundF, fldF, ixAF, mmF2, D.plain, D.isPure, optAll, D.dull, callVF, splice, D.cells, D.one, sets, resT, D.flat, D.flat0, D.simple, Nat.reduceBNe, Nat.reduceLT, reduceIte, Nat.reduceEqDiff, Nat.reduceAdd, Nat.reduceMul, Nat.reduceSub, Nat.reduceLeDiff, Int.reduceToNat, Int.reduceLT, Int.reduceLE, Int.reduceEq, Int.reduceNeg, Int.reduceSub, Int.reduceAdd, Int.reduceMul, stG_own, sgn_lt, ldC_nmsO, nms_len, bodQ_nrm]
    refine ⟨fun h1 => ⟨⟨by omega, by omega, by omega⟩, hk, ?_⟩, fun h1 => ?_⟩
    ·refine callF_of (Tryz.rcompare (p.xK q k) (p.ln (p.hK q k) k) (by omega) (by omega)) ?_
     simp only [evX, evY, evZ, forall_const, implies_true, initE, stepF, D.clean, mvF, moF, tkF, shF, ariF, ciF, catF, scF, ebF, eqF, eqOk, eqPr, enF, notF, ngF, cvF, csF, csbF, lenF, lenSF, ixF, iaF, PX.slot, iaAF, faF, ldF, D.mem, stF, bxF, mkSF, boundF, fldF, ixAF, mmF2, D.plain, D.isPure, optAll, D.dull, callVF, splice, D.cells, D.one, sets, resT, D.flat, D.flat0, D.simple, Nat.reduceBNe, Nat.reduceLT, reduceIte, Nat.reduceEqDiff, Nat.reduceAdd, Nat.reduceMul, Nat.reduceSub, Nat.reduceLeDiff, Int.reduceToNat, Int.reduceLT, Int.reduceLE, Int.reduceEq, Int.reduceNeg, Int.reduceSub, Int.reduceAdd, Int.reduceMul, stG_own, cmp_gt, bodQ_nrm]
     refine ⟨fun h2 => ⟨?_, by omega⟩, fun h2 => ?_⟩
     ·rw [he, hm, Pf.ugo, if_neg]
      intro z
      simp only [Pf.inK, Bool.and_eq_true, decide_eq_true_eq] at z
      grind
     ·have hin : p.inK q k = true := by
       simp only [Pf.inK, hw, Bool.true_and, decide_eq_true_eq]
       exact ⟨by grind, by grind⟩
      have e1 : p.ugo q p.n 0 = some (sumN (p.ln (p.hK q k)) k + p.xK q k, p.hK q k) := by rw [he, hm, Pf.ugo, if_pos hin]
      have cp := Tryz.kplace _ (hz k hk hin)
      simp only [ptD] at cp
      rw [nms_len, cut_nms hk0]
      refine ⟨by omega, by omega, by omega, rfl, ?_⟩
      refine callF_of cs ?_
      (refine ev ?_; try exact ⟨⟩)
      refine callF_of (Tryz.radd _ (p.xK q k) (by omega) (by omega)) ?_
      (refine ev ?_; try exact ⟨⟩)
      refine callF_of cp ?_
      simp only [evX, evY, evZ, forall_const, implies_true, initE, stepF, D.clean, mvF, moF, tkF, shF, ariF, ciF, catF, scF, ebF, eqF, eqOk, eqPr, enF, notF, ngF, cvF, csF, csbF, lenF, lenSF, ixF, iaF, PX.slot, iaAF, faF, ldF, D.mem, stF, bxF, mkSF, boundF, fldF, ixAF, mmF2, D.plain, D.isPure, optAll, D.dull, callVF, splice, D.cells, D.one, sets, resT, D.flat, D.flat0, D.simple, Nat.reduceBNe, Nat.reduceLT, reduceIte, Nat.reduceEqDiff, Nat.reduceAdd, Nat.reduceMul, Nat.reduceSub, Nat.reduceLeDiff, Int.reduceToNat, Int.reduceLT, Int.reduceLE, Int.reduceEq, Int.reduceNeg, Int.reduceSub, Int.reduceAdd, Int.reduceMul, stG_own, bodQ_ret]
      rw [e1]
      rfl
    ·refine ⟨?_, by omega⟩
     rw [he, hm, Pf.ugo, if_neg]
     intro z
     simp only [Pf.inK, Bool.and_eq_true, decide_eq_true_eq] at z
     grind
end Go.Proofs

/-
 KINK: the examples of the chapter. Own work.
-/
namespace Go.Proofs
open Go Go.Pi Go.RowKit Go.Ar Go.Ge Go.Kk

theorem Tryz.kat (x y : Int) (hx : inR .i64 x) (hy : inR .i64 y) : Con Tryz.prog Tryz.L 44 [.int .i64 x, .int .i64 y] (ptD ((x : Rat), (y : Rat))) := by
 refine rule44 Tryz.hL rfl rfl rfl ?_
 simp only [ptD, pc44, rs44, oU, oC, evX, evY, evZ, forall_const, implies_true, initE, stepF, D.clean, mvF, moF, tkF, shF, ariF, ciF, catF, scF, ebF, eqF, eqOk, eqPr, enF, notF, ngF, cvF, csF, csbF, lenF, lenSF, ixF, iaF, PX.slot, iaAF, faF, ldF, D.mem, stF, bxF, mkSF, boundF, fldF, ixAF, mmF2, D.plain, D.isPure, optAll, D.dull, callVF, splice, D.cells, D.one, sets, resT, D.flat, D.flat0, D.simple, Nat.reduceBNe, Nat.reduceLT, reduceIte, Nat.reduceEqDiff, Nat.reduceAdd, Nat.reduceMul, Nat.reduceSub, Nat.reduceLeDiff, Int.reduceToNat, Int.reduceLT, Int.reduceLE, Int.reduceEq, Int.reduceNeg, Int.reduceSub, Int.reduceAdd, Int.reduceMul, stG_own]
 refine callF_of (Tryz.rwhole x hx) ?_
 (refine ev ?_; try exact ⟨⟩)
 refine callF_of (Tryz.rwhole y hy) ?_
 (refine ev ?_; try exact ⟨⟩)
 rfl

def exP : Pf := ⟨2, (0, 0), fun k => if k = 0 then 1 / 2 else -1 / 2, fun _ => 5⟩
theorem lt2 {P : Nat → Prop} (h0 : P 0) (h1 : P 1) : ∀ k, k < 2 → P k := fun k hk => by
 obtain rfl | rfl : k = 0 ∨ k = 1 := by omega
 ·exact h0
 ·exact h1
theorem lt3 {P : Nat → Prop} (h0 : P 0) (h1 : P 1) (h2 : P 2) : ∀ k, k ≤ 2 → P k := fun k hk => by
 obtain rfl | rfl | rfl : k = 0 ∨ k = 1 ∨ k = 2 := by omega
 ·exact h0
 ·exact h1
 ·exact h2
theorem exSz : PSz exP where
 n0 := by decide
 n := by decide
 t := lt2 (by decide +kernel) (by decide +kernel)
 l := lt2 (by decide +kernel) (by decide +kernel)
 at' := lt3 ⟨by decide +kernel, by decide +kernel⟩ ⟨by decide +kernel, by decide +kernel⟩ ⟨by decide +kernel, by decide +kernel⟩
 ax := lt3 ⟨by decide +kernel, by decide +kernel⟩ ⟨by decide +kernel, by decide +kernel⟩ ⟨by decide +kernel, by decide +kernel⟩
 gr := lt2 (by decide +kernel) (by decide +kernel)
 ok := lt2 (by decide +kernel) (by decide +kernel)
theorem exD : pfD exP = [.str [48], .str [48], .sl 2 [.str [49, 47, 50], .str [45, 49, 47, 50]], .sl 2 [.str [53], .str [53]]] := by
 have e1 : rt (0 : Rat) = [48] := rt0'
 have e2 : rt (1 / 2 : Rat) = [49, 47, 50] := by decide +kernel
 have e3 : rt (-1 / 2 : Rat) = [45, 49, 47, 50] := by decide +kernel
 have e4 : rt (5 : Rat) = [53] := by decide +kernel
 show [D.str (rt (0 : Rat)), D.str (rt (0 : Rat)), .sl 2 [.str (rt (1 / 2 : Rat)), .str (rt (-1 / 2 : Rat))], .sl 2 [.str (rt (5 : Rat)), .str (rt (5 : Rat))]] = _
 rw [e1, e2, e3, e4]
theorem Tryz.kexample : Con Tryz.prog Tryz.L 53 [] (.agg (pfD exP)) := by
 have c := Tryz.kat 0 0 (inR_i64.2 (by omega)) (inR_i64.2 (by omega))
 rw [show ((0 : Int) : Rat) = 0 by decide +kernel] at c
 simp only [ptD, rt0'] at c
 rw [exD]
 refine rule53 Tryz.hL rfl rfl rfl ?_
 (simp only [pc53, rs53, oU, oC]; refine ev ?_; try exact ⟨⟩)
 refine callF_of c ?_
 (refine ev ?_; try exact ⟨⟩)
 rfl

set_option maxRecDepth 100000 in
set_option maxHeartbeats 8000000 in
theorem Tryz.kknown : Con Tryz.prog Tryz.L 13 [] (.bool true) := by
 have c1 := Tryz.kDirection (1 / 2) (by decide +kernel) ⟨by decide +kernel, by decide +kernel⟩
 have c2 := Tryz.kAxes exP exSz
 have c3 := Tryz.kReach exP exSz
 have c4 := Tryz.kArea exP exSz 0 3 (by decide +kernel) (by decide +kernel) (by decide +kernel)
 have c5 := Tryz.kUnfold exP exSz (3, 17 / 3) ⟨by decide +kernel, by decide +kernel⟩ (lt2 (by decide +kernel) (by decide +kernel)) (lt2 (fun _ => ⟨by decide +kernel, by decide +kernel⟩) (fun _ => ⟨by decide +kernel, by decide +kernel⟩))
 have c6 := Tryz.kat 3 4 (inR_i64.2 (by omega)) (inR_i64.2 (by omega))
 rw [show dirK (1 / 2) = (3 / 5, 4 / 5) by decide +kernel] at c1
 rw [show exP.n = 2 from rfl, show rch exP 2 = (some (-15 / 4), none) by decide +kernel] at c3
 rw [show (exP.win 0 && exP.win 3) = true by decide +kernel, if_pos rfl, if_pos (by decide +kernel), show (sumN (exP.ln 0) exP.n + sumN (exP.ln 3) exP.n) * (1 / 2) * (3 - 0) = 42 by decide +kernel] at c4
 rw [show exP.n = 2 from rfl, show exP.ugo (3, 17 / 3) 2 0 = some (19 / 3, 1) by decide +kernel] at c5
 have ea : axI exP = [.str [51], .str [52], .str [48], .str [53, 47, 51]] := by
  show axD (exP.at' 1, exP.ax 1) = _
  rw [show exP.at' 1 = (3, 4) by decide +kernel, show exP.ax 1 = (0, 5 / 3) by decide +kernel]
  show [D.str (rt (3 : Rat)), D.str (rt (4 : Rat)), D.str (rt (0 : Rat)), D.str (rt (5 / 3 : Rat))] = _
  rw [show rt (3 : Rat) = [51] by decide +kernel, show rt (4 : Rat) = [52] by decide +kernel, rt0', show rt (5 / 3 : Rat) = [53, 47, 51] by decide +kernel]
 rw [show exP.n - 1 = 1 from rfl, ea] at c2
 simp only [ptD, optT_s, optT_n, unfD, show rt (1 / 2 : Rat) = [49, 47, 50] by decide +kernel, show rt (3 / 5 : Rat) = [51, 47, 53] by decide +kernel, show rt (4 / 5 : Rat) = [52, 47, 53] by decide +kernel, show rt (-15 / 4 : Rat) = [45, 49, 53, 47, 52] by decide +kernel,
  rt0', rt1, show rt (3 : Rat) = [51] by decide +kernel, show rt (42 : Rat) = [52, 50] by decide +kernel, show rt (17 / 3 : Rat) = [49, 55, 47, 51] by decide +kernel, show rt (19 / 3 : Rat) = [49, 57, 47, 51] by decide +kernel,
  show ((3 : Int) : Rat) = 3 by decide +kernel, show ((4 : Int) : Rat) = 4 by decide +kernel, show rt (4 : Rat) = [52] by decide +kernel] at c1 c2 c3 c4 c5 c6
 have c0 := Tryz.kexample
 rw [exD] at c0 c2 c3 c4 c5
 refine rule13 Tryz.hL rfl rfl rfl ?_
 (simp only [pc13, rs13, oU, oC]; refine ev ?_; try exact ⟨⟩)
 refine callF_of c0 ?_
 (refine ev ?_; try exact ⟨⟩)
 refine callF_of c1 ?_
 (refine ev ?_; try exact ⟨⟩)
 refine callF_of c2 ?_
 (refine ev ?_; try exact ⟨⟩)
 refine callF_of c3 ?_
 (refine ev ?_; try exact ⟨⟩)
 refine callF_of c4 ?_
 (refine ev ?_; try exact ⟨⟩)
 refine callF_of c5 ?_
 (refine ev ?_; try exact ⟨⟩)
 refine ⟨fun _ => ⟨by decide, ?_⟩, fun h => absurd rfl h⟩
 refine callF_of c6 ?_
 (refine ev ?_; try exact ⟨⟩)
end Go.Proofs

/-
 KINK: the law of Direction. Own work.
-/
namespace Go.Proofs
open Go Go.Pi Go.RowKit Go.Ar Go.Ge Go.Kk

end Go.Proofs

/-
 KINK: Check of any profile; the law's. Own work.
-/
namespace Go.Proofs
open Go Go.Pi Go.RowKit Go.Ar Go.Ge Go.Kk

/-- a profile of any texts -/
structure TP where
 sx : List UInt8
 sy : List UInt8
 D : List (List UInt8)
 L : List (List UInt8)
abbrev txs (l : List (List UInt8)) : List D := l.map .str
def tpD (p : TP) : List D := [.str p.sx, .str p.sy, .sl p.D.length (txs p.D), .sl p.L.length (txs p.L)]

def badR (t l : List UInt8) : Prop := ∃ q r : Rat, t = rt q ∧ l = rt r ∧ (¬ (-1 < q ∧ q < 1) ∨ ¬ 0 < r)
open Classical in
noncomputable def stpE (t l : List UInt8) : Int := if okR t ∧ okR l then (if badR t l then 3 else 0) else 2
open Classical in
noncomputable def eGo (p : TP) : Nat → Nat → Int
 | 0, _ => 0
 | m + 1, k => if stpE (p.D.getD k []) (p.L.getD k []) = 0 then eGo p m (k + 1) else stpE (p.D.getD k []) (p.L.getD k [])
open Classical in
noncomputable def errT (p : TP) : Int :=
 if p.D.length = 0 then 13 else if 20 < p.D.length then 4 else if p.L.length ≠ p.D.length then 5 else if okR p.sx ∧ okR p.sy then eGo p p.D.length 0 else 2

structure TSz (p : TP) : Prop where
 sx : p.sx.length ≤ 20
 sy : p.sy.length ≤ 20
 D : ∀ k, (p.D.getD k []).length ≤ 20
 L : ∀ k, (p.L.getD k []).length ≤ 20
 dn : p.D.length ≤ 22
 ln : p.L.length ≤ 22

end Go.Proofs

/-
 KINK: the law's model: beds, lengths, sums, comparisons. Own work.
-/
namespace Go.Proofs
open Go Go.Pi Go.RowKit Go.Ar Go.Ge Go.Kk

/-- the law's model of a profile -/
def moD (p : Pf) : List D := [.sl (p.n + 1) (pts (lst (p.n + 1) p.at')), .sl (p.n + 1) (pts (lst (p.n + 1) p.ax))]
theorem ldC_ptsT {n k t : Nat} {f : Nat → Pt} {N : EP} {E : Env} : ldC true 2 (List.take 2 (List.drop (k * 2) (pts (lst n f)))) t N E = (k < n ∧ N (st1 E t (.agg (pD (f k))))) := by
 rw [ldC_pts]
 by_cases h : k < n
 ·simp [lst_at _ h, h]
 ·have e : (lst n f)[k]? = none := List.getElem?_eq_none (by rw [lst_len]; omega)
  simp [e, h]

theorem nms_suc (n : Nat) (f : Nat → Rat) : nms (n + 1) f = nms n f ++ [.str (rt (f n))] := lst_succ n _
theorem rt_z : rt (0 : Rat) = [48] := by decide +kernel
end Go.Proofs

/-
 KINK: the law's unfolding. Own work.
-/
namespace Go.Proofs
open Go Go.Pi Go.RowKit Go.Ar Go.Ge Go.Kk

def munfD (o : Option Pt) : D := match o with
 | some q => .tup [ptD q, .bool true]
 | none => .tup [.agg [.str [], .str []], .bool false]

end Go.Proofs

/-
 KINK: planned profiles and their sizes. Own work.
-/
namespace Go.Proofs
open Go Go.Pi Go.RowKit Go.Ar Go.Ge Go.Kk

/-- a plan: where the profile begins, a dip and a length for each domain -/
structure PlK where
 x : Int
 y : Int
 d : List (Int × Int)
def i8K (z : Int) : Prop := -128 ≤ z ∧ z ≤ 127
structure PlK.ok (p : PlK) : Prop where
 x : i8K p.x
 y : i8K p.y
 d : ∀ q ∈ p.d, i8K q.1 ∧ i8K q.2
 n : p.d.length ≤ 4
def PlK.D (p : PlK) : List D := [.int .i8 p.x, .int .i8 p.y, .sl p.d.length (p.d.flatMap fun q => [.int .i8 q.1, .int .i8 q.2])]
def PlK.dip (p : PlK) (k : Nat) : Rat := ((((p.d.getD k (0, 0)).1.tmod 6 : Int) : Rat)) / 6
def PlK.len (p : PlK) (k : Nat) : Rat := ((1 + ((p.d.getD k (0, 0)).2.natAbs : Int).tmod 6 : Int) : Rat)
/-- the profile of a plan -/
def PlK.pf (p : PlK) : Pf := ⟨if p.d = [] then 1 else p.d.length, ((p.x.tmod 10 : Int), (p.y.tmod 10 : Int)), p.dip, p.len⟩

theorem tm6 (z : Int) : -5 ≤ z.tmod 6 ∧ z.tmod 6 ≤ 5 := by
 have h1 := Int.tmod_lt_of_pos z (b := 6) (by decide)
 have h2 := Int.lt_tmod_of_pos z (b := 6) (by decide)
 omega
theorem tm10 (z : Int) : -9 ≤ z.tmod 10 ∧ z.tmod 10 ≤ 9 := by
 have h1 := Int.tmod_lt_of_pos z (b := 10) (by decide)
 have h2 := Int.lt_tmod_of_pos z (b := 10) (by decide)
 omega
/-- a half-tangent of a plan -/
def T6 (t : Rat) : Prop := ∃ k : Int, -5 ≤ k ∧ k ≤ 5 ∧ t = (k : Rat) / 6
theorem T6.cases {q : Rat → Prop} (h : ∀ k ∈ ([-5, -4, -3, -2, -1, 0, 1, 2, 3, 4, 5] : List Int), q ((k : Rat) / 6)) {t : Rat} (ht : T6 t) : q t := by
 obtain ⟨k, h1, h2, rfl⟩ := ht
 apply h
 simp only [List.mem_cons, List.not_mem_nil, or_false]
 omega
theorem PlK.t6 (p : PlK) (k : Nat) : T6 (p.dip k) := ⟨_, (tm6 _).1, (tm6 _).2, rfl⟩
theorem T6.sz {t : Rat} (h : T6 t) : rd t ≤ 1 := h.cases (q := fun t => Go.Ar.rd t ≤ 1) (by decide +kernel)
theorem T6.dir {t : Rat} (h : T6 t) : Sz 2 (dirK t) := by
 have h1 := h.cases (q := fun t => Go.Ar.rd (dirK t).1 ≤ 2) (by decide +kernel)
 have h2 := h.cases (q := fun t => Go.Ar.rd (dirK t).2 ≤ 2) (by decide +kernel)
 exact ⟨h1, h2⟩
theorem T6.in1 {t : Rat} (h : T6 t) : -1 < t ∧ t < 1 := by
 have h1 := h.cases (q := fun t => -1 < t) (by decide +kernel)
 have h2 := h.cases (q := fun t => t < 1) (by decide +kernel)
 exact ⟨h1, h2⟩
theorem T6.tan {t u : Rat} (h : T6 t) (k : T6 u) : rd (tanH t u) ≤ 2 :=
 h.cases (q := fun t => Go.Ar.rd (tanH t u) ≤ 2) (fun a ha => k.cases (q := fun u => Go.Ar.rd (tanH ((a : Rat) / 6) u) ≤ 2) (fun b hb =>
  (by decide +kernel : ∀ a ∈ ([-5, -4, -3, -2, -1, 0, 1, 2, 3, 4, 5] : List Int), ∀ b ∈ ([-5, -4, -3, -2, -1, 0, 1, 2, 3, 4, 5] : List Int), Go.Ar.rd (tanH ((a : Rat) / 6) ((b : Rat) / 6)) ≤ 2) a ha b hb))
theorem PlK.n4 (p : PlK) (hp : p.ok) : 0 < p.pf.n ∧ p.pf.n ≤ 4 := by
 have := hp.n
 unfold PlK.pf
 simp only
 split
 ·omega
 ·rename_i h
  have : p.d.length ≠ 0 := fun z => h (List.eq_nil_of_length_eq_zero z)
  omega
theorem rd_small {z : Int} (h1 : -9 ≤ z) (h2 : z ≤ 9) : rd (z : Rat) ≤ 1 := by
 have h : ∀ z ∈ ([-9, -8, -7, -6, -5, -4, -3, -2, -1, 0, 1, 2, 3, 4, 5, 6, 7, 8, 9] : List Int), rd (z : Rat) ≤ 1 := by decide +kernel
 apply h
 simp only [List.mem_cons, List.not_mem_nil, or_false]
 omega
theorem PlK.len16 (p : PlK) (k : Nat) : ∃ z : Int, 1 ≤ z ∧ z ≤ 6 ∧ p.len k = (z : Rat) := by
 have h := tm6 ((p.d.getD k (0, 0)).2.natAbs : Int)
 have h0 := Int.tmod_nonneg 6 (a := ((p.d.getD k (0, 0)).2.natAbs : Int)) (by omega)
 exact ⟨_, by omega, by omega, rfl⟩
theorem PlK.rlen (p : PlK) (k : Nat) : rd (p.len k) ≤ 1 := by
 obtain ⟨z, h1, h2, e⟩ := p.len16 k
 rw [e]; exact rd_small (by omega) (by omega)
theorem PlK.at4 (p : PlK) : ∀ k, Sz (1 + 4 * k) (p.pf.at' k)
 | 0 => ⟨rd_small (tm10 _).1 (tm10 _).2, rd_small (tm10 _).1 (tm10 _).2⟩
 | k + 1 => by
   have h := (p.at4 k).pl (p.t6 k).dir (p.rlen k)
   exact h.mono (by omega)
theorem PlK.nrm (p : PlK) (k : Nat) : Sz 2 (Go.Kk.nrm (p.dip k)) := Sz.up (p.t6 k).dir
theorem Sz.avg {n m : Pt} (hn : Sz 2 n) (hm : Sz 2 m) : Sz 20 (Go.Kk.avg n m) := by
 have h1 := hn.pl hm (Nat.le_of_eq rd_one1)
 have h2 := rd_dt hn hm
 have h3 := rd_add 1 (dt n m)
 have h4 := rd_div 1 (1 + dt n m)
 rw [rd_one1] at h3 h4
 have h0 : Sz 1 ((0, 0) : Pt) := ⟨Nat.le_of_eq rd_zero0, Nat.le_of_eq rd_zero0⟩
 exact (h0.pl h1 (c := 12) (by omega)).mono (by omega)
theorem PlK.ax20 (p : PlK) (k : Nat) : Sz 20 (p.pf.ax k) := by
 unfold Pf.ax
 split
 ·exact (p.nrm 0).mono (by omega)
 ·split
  ·exact (p.nrm _).mono (by omega)
  ·exact Sz.avg (p.nrm _) (p.nrm _)
theorem PlK.psz (p : PlK) (hp : p.ok) : PSz p.pf where
 n0 := (p.n4 hp).1
 n := (p.n4 hp).2
 t := fun k _ => Nat.le_trans (p.t6 k).sz (by omega)
 l := fun k _ => Nat.le_trans (p.rlen k) (by omega)
 at' := fun k hk => (p.at4 k).mono (by have := (p.n4 hp).2; omega)
 ax := fun k _ => (p.ax20 k).mono (by omega)
 gr := fun k _ => by
  have h := rd_dt (p.t6 k).dir ((p.ax20 (k + 1)).mn (p.ax20 k))
  exact Nat.le_trans h (by omega)
 ok := fun k _ => by
  obtain ⟨z, h1, h2, e⟩ := p.len16 k
  refine ⟨(p.t6 k).in1.1, (p.t6 k).in1.2, ?_⟩
  show 0 < p.len k
  rw [e]
  have : (0 : Int) < z := by omega
  exact_mod_cast this
/-- a length changes by a number of at most 5 digits -/
theorem PlK.gr5 (p : PlK) (hp : p.ok) {k : Nat} (hk : k < p.pf.n) : rd (p.pf.gr k) ≤ 5 := by
 rw [gr_eq p.pf (fun j _ => (p.t6 j).in1) hk]
 have z : rd (0 : Rat) ≤ 2 := by rw [rd_zero0]; omega
 have h1 : rd (if k + 1 = p.pf.n then 0 else tanH (p.pf.t k) (p.pf.t (k + 1))) ≤ 2 := by
  split
  ·exact z
  ·exact (p.t6 k).tan (p.t6 (k + 1))
 have h2 : rd (if k = 0 then 0 else tanH (p.pf.t k) (p.pf.t (k - 1))) ≤ 2 := by
  split
  ·exact z
  ·exact (p.t6 k).tan (p.t6 (k - 1))
 have h3 := rd_sub (if k + 1 = p.pf.n then 0 else tanH (p.pf.t k) (p.pf.t (k + 1))) (if k = 0 then 0 else tanH (p.pf.t k) (p.pf.t (k - 1)))
 omega
end Go.Proofs

/-
 KINK: the law Axes (given Make and of). Own work.
-/
namespace Go.Proofs
open Go Go.Pi Go.RowKit Go.Ar Go.Ge Go.Kk

/-- what Make and of are to do -/
def Tryz.MakeOk : Prop := ∀ p : PlK, p.ok → Con Tryz.prog Tryz.L 17 [.agg p.D] (.agg (pfD p.pf))
def Tryz.OfOk : Prop := ∀ p : Pf, PSz p → Con Tryz.prog Tryz.L 18 [.agg (pfD p)] (.agg (moD p))
/-- numbers of a plan that the type allows -/
structure PlK.fit (p : PlK) : Prop where
 x : i8K p.x
 y : i8K p.y
 d : ∀ q ∈ p.d, i8K q.1 ∧ i8K q.2
 n : p.d.length ≤ 1048576
theorem PlK.fit.ok {p : PlK} (h : p.fit) (hn : p.d.length ≤ 4) : p.ok := ⟨h.x, h.y, h.d, hn⟩

end Go.Proofs

/-
 ARITHMETIC: integer.Root by Newton's steps. Own work.
-/
namespace Go.Ar
/-- the root of a number -/
def nrt : Nat → Nat
 | 0 => 0
 | n + 1 => if (nrt n + 1) * (nrt n + 1) ≤ n + 1 then nrt n + 1 else nrt n
theorem nrt_spec : ∀ n, nrt n * nrt n ≤ n ∧ n < (nrt n + 1) * (nrt n + 1)
 | 0 => by simp [nrt]
 | n + 1 => by
   obtain ⟨h1, h2⟩ := nrt_spec n
   simp only [nrt]
   split
   ·rename_i h
    refine ⟨h, ?_⟩
    have e : (nrt n + 1 + 1) * (nrt n + 1 + 1) = (nrt n + 1) * (nrt n + 1) + 2 * (nrt n + 1) + 1 := by
     rw [Nat.add_mul, Nat.mul_add, Nat.one_mul, Nat.mul_one]; omega
    omega
   ·exact ⟨by omega, by omega⟩
theorem nrt_unique {n r : Nat} (h1 : r * r ≤ n) (h2 : n < (r + 1) * (r + 1)) : r = nrt n := by
 obtain ⟨h3, h4⟩ := nrt_spec n
 rcases Nat.lt_trichotomy r (nrt n) with h | h | h
 ·have := Nat.mul_le_mul (show r + 1 ≤ nrt n from h) (show r + 1 ≤ nrt n from h); omega
 ·exact h
 ·have := Nat.mul_le_mul (show nrt n + 1 ≤ r from h) (show nrt n + 1 ≤ r from h); omega
theorem am_gm (a b : Nat) : 4 * (a * b) ≤ (a + b) * (a + b) := by
 rcases Nat.le_total a b with h | h
 ·obtain ⟨k, rfl⟩ := Nat.exists_eq_add_of_le h
  have : (a + (a + k)) * (a + (a + k)) = 4 * (a * (a + k)) + k * k := by grind
  omega
 ·obtain ⟨k, rfl⟩ := Nat.exists_eq_add_of_le h
  have : (b + k + b) * (b + k + b) = 4 * ((b + k) * b) + k * k := by grind
  omega
/-- one step of Newton's -/
theorem newton_up {n x : Nat} (hx : 0 < x) : n < ((x + n / x) / 2 + 1) * ((x + n / x) / 2 + 1) := by
 have h1 : n < x * (n / x + 1) := by have := Nat.lt_mul_div_succ n hx; exact this
 have h2 := am_gm x (n / x + 1)
 generalize n / x = q at *
 have h3 : x + (q + 1) ≤ 2 * ((x + q) / 2 + 1) := by omega
 have h4 := Nat.mul_le_mul h3 h3
 generalize (x + q) / 2 + 1 = y at *
 have h5 : 2 * y * (2 * y) = 4 * (y * y) := by rw [Nat.mul_assoc, Nat.mul_left_comm y 2 y, ← Nat.mul_assoc]
 omega
theorem newton_end {n x : Nat} (hx : 0 < x) (hn : n < (x + 1) * (x + 1)) (h : x ≤ (x + n / x) / 2) : x = nrt n := by
 refine nrt_unique ?_ hn
 have h1 : x ≤ n / x := by omega
 have h2 := Nat.mul_le_mul_left x h1
 have h3 := Nat.mul_div_le n x
 omega
theorem newton_pos {n x : Nat} (h0 : 0 < n) (hx : 0 < x) : 0 < (x + n / x) / 2 := by
 rcases Nat.eq_zero_or_pos ((x + n / x) / 2) with h | h
 ·have := newton_up (n := n) hx
  rw [h] at this; omega
 ·exact h
theorem nrt_le (n : Nat) : nrt n ≤ n := by
 have h := (nrt_spec n).1
 rcases Nat.eq_zero_or_pos (nrt n) with h0 | h0
 ·omega
 ·have := Nat.mul_le_mul_left (nrt n) (show 1 ≤ nrt n from h0); omega
theorem nrt_zero {n : Nat} : nrt n = 0 ↔ n = 0 := by
 constructor
 ·intro h; have := (nrt_spec n).2; rw [h] at this; omega
 ·rintro rfl; rfl
theorem nrt_sq (r : Nat) : nrt (r * r) = r := (nrt_unique (Nat.le_refl _) (by rw [Nat.add_mul, Nat.mul_add]; omega)).symm
end Go.Ar
namespace Go.Proofs
open Go Go.Pi Go.RowKit Go.Ar

theorem cutz_one (j : Nat) : cutz (List.replicate j 0 ++ [1]) = List.replicate j 0 ++ [1] := cutz_snoc (by decide) _
theorem pcs_pow (j : Nat) : pcs (1000000000 ^ j) = List.replicate j 0 ++ [1] := by
 have hd : isD big (List.replicate j 0 ++ [1]) := isD_snoc (isD_repl j) ⟨by decide, by decide⟩
 have h := cutz_eq (B := 1000000000) (by decide) hd
 rw [cutz_one] at h
 rw [h]
 have e : vl ((1000000000 : Nat) : Int) (List.replicate j 0 ++ [1]) = ((1000000000 ^ j : Nat) : Int) := by
  rw [vl_append, vl_repl, List.length_replicate, Int.natCast_pow]; simp [vl]
 rw [e, Int.toNat_natCast]
theorem sq_start {n : Nat} : n < (1000000000 ^ (((pcs n).length + 1) / 2) + 1) * (1000000000 ^ (((pcs n).length + 1) / 2) + 1) := by
 have h1 := pcs_lt n
 have h2 : 1000000000 ^ (pcs n).length ≤ 1000000000 ^ (((pcs n).length + 1) / 2 + ((pcs n).length + 1) / 2) := Nat.pow_le_pow_right (by decide) (by omega)
 rw [Nat.pow_add] at h2
 have h3 := Nat.mul_le_mul (Nat.le_succ (1000000000 ^ (((pcs n).length + 1) / 2))) (Nat.le_succ (1000000000 ^ (((pcs n).length + 1) / 2)))
 exact Nat.lt_of_lt_of_le h1 (Nat.le_trans h2 h3)

set_option maxHeartbeats 2000000 in
theorem Tryz.root (n : Nat) (hn : dl (n : Int) ≤ 40000) : Con Tryz.prog Tryz.L 86 [.str (tz (n : Int))] (.tup [.str (tz (nrt n : Int)), .int .i64 0]) := by
 have td := tz_dl (n : Int)
 have pn : (pcs n).length ≤ 40000 := Nat.le_trans (pcs_dl (n : Int)) hn
 refine rule86 Tryz.hL rfl rfl rfl ?_
 (simp only [pc86, rs86, oU, oC]; refine ev ?_; try exact ⟨⟩)
 have hs := Tryz.sign (n : Int) (by omega)
 have ho := Tryz.open (n : Int) (by omega)
 rw [Int.natAbs_natCast, dB_f (show ¬(n : Int) < 0 by omega)] at ho
 refine callF_of hs ?_
 (refine ev ?_; try exact ⟨⟩)
 refine ⟨fun h => absurd h (fun h => by have := (Int.sign_nonneg_iff (x := (n : Int))).2 (by omega); omega), fun _ => ?_⟩
 refine callF_of ho ?_
 ((try simp only [num]); refine ev ?_; try exact ⟨⟩)
 refine ⟨fun h => ?_, fun h => ?_⟩
 ·have h0 : n = 0 := by
   rcases Nat.eq_zero_or_pos n with h1 | h1
   ·exact h1
   ·have := pcs_len_pos h1; omega
  subst h0
  simp [resD_two, rvD, lk, D.plain, D.isPure, optAll, nrt]
  exact ((tz_zero 0).2 rfl).symm
 have hn0 : 0 < n := by
  rcases Nat.eq_zero_or_pos n with h1 | h1
  ·rw [h1, pcs_zero] at h; simp at h
  ·exact h1
 have hst := @sq_start n
 have hpp := pcs_pow (((pcs n).length + 1) / 2)
 have e2 : ((((pcs n).length : Int) + 1).tdiv 2) = ((((pcs n).length + 1) / 2 : Nat) : Int) := by
  rw [show (((pcs n).length : Int) + 1) = (((pcs n).length + 1 : Nat) : Int) by omega]; rfl
 rw [e2, Int.toNat_natCast]
 have hj : ((pcs n).length + 1) / 2 ≤ 20001 := by omega
 generalize ((pcs n).length + 1) / 2 = j at *
 have hx0 : 0 < 1000000000 ^ j := Nat.pow_pos (by decide)
 and_intros <;> try omega
 refine loopF_of (fun E => ∃ (x : Nat) (d5 : D), (d5 = num x ∨ d5 = .own true 170 (pcs x).length (ints .u64 (pcs x))) ∧ 0 < x ∧ n < (x + 1) * (x + 1) ∧ (pcs x).length ≤ 40001 ∧ E = [(4, num n), (5, d5)])
  (fun E => match lk E 5 with | .sl _ cs => (vl big (cs.map dInt)).toNat | .own _ _ _ cs => (vl big (cs.map dInt)).toNat + 1 | _ => 0)
  ⟨1000000000 ^ j, _, .inr rfl, hx0, hst, by rw [hpp]; simp; omega, by rw [hpp]; simp [ints, num]⟩ ?_
 rintro _ ⟨x, d5, h5, hx, hx2, hxl, rfl⟩
 have lq := pcs_len_mono (Nat.div_le_self n x)
 have hdv := Tryz.divide n x (by omega) (by omega) hx
 have ls := pcs_len_add (k := 40001) (m := x) (n := n / x) (by omega) (by omega)
 have hpl := Tryz.n_plus x (n / x) (by omega) (by omega)
 have p2 : pcs 2 = [2] := pcs_small (by decide) (by decide)
 have hd2 := Tryz.divide (x + n / x) 2 (by omega) (by rw [p2]; simp) (by decide)
 rw [show num 2 = D.sl 1 [.int .u64 2] by unfold num; rw [p2]; rfl] at hd2
 have ly := pcs_len_mono (Nat.div_le_self (x + n / x) 2)
 have hor := Tryz.order ((x + n / x) / 2) x (by omega) (by omega)
 have hup := newton_up (n := n) hx
 have hen := newton_end hx hx2
 have hpo := newton_pos hn0 hx
 have hcl := Tryz.closeZ false x (by omega)
 generalize (x + n / x) / 2 = y at *
 have cO : 0 ≤ cmpN y x ↔ x ≤ y := by unfold cmpN; split <;> (try split) <;> omega
 rcases h5 with rfl | rfl
 all_goals
  ((try simp only [num]); refine ev ?_; try exact ⟨⟩)
  refine callF_of hdv ?_
  ((try simp only [num]); refine ev ?_; try exact ⟨⟩)
  refine callF_of hpl ?_
  ((try simp only [num]); refine ev ?_; try exact ⟨⟩)
  refine callF_of hd2 ?_
  ((try simp only [num]); refine ev ?_; try exact ⟨⟩)
  refine callF_of hor ?_
  ((try simp only [num]); refine ev ?_; try exact ⟨⟩)
  refine ⟨fun h6 => ?_, fun h6 => ?_⟩
  ·have h7 := hen (cO.1 h6)
   refine callF_of hcl ?_
   ((try simp only [num]); refine ev ?_; try exact ⟨⟩)
   rw [h7]
   simp [resD_two, rvD, lk, D.plain, D.isPure, optAll]
   done
  ·have h7 : ¬x ≤ y := fun h => h6 (cO.2 h)
   have lx := pcs_len_mono (show y ≤ x by omega)
   refine ⟨⟨y, num y, .inl rfl, hpo, hup, by omega, rfl⟩, ?_⟩
   rw [ints_back, ints_back, pcs_vl, pcs_vl]; omega
end Go.Proofs

/-
 SURD: terms as cells, roots, alike, over. Own work.
-/
namespace Go.Ar
/-- a square -/
def isq (n : Nat) : Prop := nrt n * nrt n = n
instance (n : Nat) : Decidable (isq n) := inferInstanceAs (Decidable (nrt n * nrt n = n))
theorem isq_sq (r : Nat) : isq (r * r) := by unfold isq; rw [nrt_sq]
/-- the first place with a property -/
def ixA {α : Type} (p : α → Bool) : List α → Nat → Int
 | [], _ => -1
 | a :: l, k => if p a then (k : Int) else ixA p l (k + 1)
theorem ixA_any {α : Type} {p : α → Bool} : ∀ {l : List α} {k : Nat}, (0 ≤ ixA p l k) ↔ l.any p = true
 | [], k => by simp [ixA]
 | a :: l, k => by
   have ih := ixA_any (p := p) (l := l) (k := k + 1)
   simp only [ixA, List.any_cons, Bool.or_eq_true]
   split
   ·rename_i h; exact ⟨fun _ => .inl h, fun _ => by omega⟩
   ·rename_i h; rw [ih]; exact ⟨.inr, fun h2 => h2.resolve_left h⟩
end Go.Ar
namespace Go.Proofs
open Go Go.Pi Go.RowKit Go.Ar

theorem dropc {α : Type} {l : List α} {k : Nat} {x : α} (h : l[k]? = some x) : l.drop k = x :: l.drop (k + 1) := by
 obtain ⟨h1, rfl⟩ := List.getElem?_eq_some_iff.1 h
 exact List.drop_eq_getElem_cons h1
/-- a term: its factor and its radicand -/
abbrev Tm := Rat × Nat
def tD (x : Tm) : List D := [.str (rt x.1), .str (tz (x.2 : Int))]
abbrev tms (l : List Tm) : List D := rows tD l
theorem tD_len (x : Tm) : (tD x).length = 2 := rfl
theorem ldC_tms {l : List Tm} {k t : Nat} {N : EP} {E : Env} : ldC true 2 (List.take 2 (List.drop (k * 2) (tms l))) t N E = (∃ x, l[k]? = some x ∧ N (st1 E t (.agg (tD x)))) := by
 unfold ldC
 cases h : l[k]? with
 | none =>
   have hk : l.length ≤ k := by simpa using h
   have e : List.take 2 (List.drop (k * 2) (tms l)) = [] := by rw [List.drop_eq_nil_of_le (by rw [rows_length tD_len]; omega)]; rfl
   rw [e]; simp [ofCells]
 | some x =>
   obtain ⟨r, e⟩ := rows_at tD_len h
   have e2 : List.take 2 (List.drop (k * 2) (tms l)) = tD x := by rw [e]; rfl
   rw [e2]
   simp [ofCells, tD]

theorem dl_nrt (n : Nat) : dl ((nrt n : Nat) : Int) ≤ dl (n : Int) := dl_mono (by have := nrt_le n; omega)
theorem tz_eq_iff (x y : Int) : (tz x = tz y) = (x = y) := propext ⟨fun h => tz_inj h, fun h => by rw [h]⟩

theorem Tryz.sroot (n : Nat) (h : dl (n : Int) ≤ 20000) : Con Tryz.prog Tryz.L 88 [.str (tz (n : Int))] (.tup [.str (tz (nrt n : Int)), .bool (dB (isq n))]) := by
 have l1 := dl_nrt n
 refine rule88 Tryz.hL rfl rfl rfl ?_
 (simp only [pc88, rs88, oU, oC]; refine ev ?_; try exact ⟨⟩)
 refine callF_of (Tryz.root n (by omega)) ?_
 (refine ev ?_; try exact ⟨⟩)
 refine callF_of (Tryz.mul (nrt n) (nrt n) (by omega) (by omega)) ?_
 (refine ev ?_; try exact ⟨⟩)
 rw [show dB (tz ((nrt n : Int) * (nrt n : Int)) = tz (n : Int)) = dB (isq n) by rw [tz_eq_iff]; unfold isq; rw [← Int.natCast_mul]; congr 1; exact propext ⟨fun h => by omega, fun h => by omega⟩]
 simp [resD_two, rvD, lk, D.plain, D.isPure, optAll]

theorem Tryz.salike (m n : Nat) (hm : dl (m : Int) ≤ 9000) (hn : dl (n : Int) ≤ 9000) : Con Tryz.prog Tryz.L 128 [.str (tz (m : Int)), .str (tz (n : Int))] (.tup [.str (tz (nrt (m * n) : Int)), .bool (dB (isq (m * n)))]) := by
 have l1 := dl_mul m n
 refine rule128 Tryz.hL rfl rfl rfl ?_
 (simp only [pc128, rs128, oU, oC]; refine ev ?_; try exact ⟨⟩)
 refine ⟨fun h => ?_, fun h => ?_⟩
 ·have e : m = n := by have := tz_inj h; omega
  subst e
  rw [dB_t (isq_sq m), nrt_sq]
  simp [resD_two, rvD, lk, D.plain, D.isPure, optAll]
 ·refine callF_of (Tryz.mul m n (by omega) (by omega)) ?_
  (refine ev ?_; try exact ⟨⟩)
  refine callF_of (Tryz.sroot (m * n) (by rw [Int.natCast_mul]; omega)) ?_
  (refine ev ?_; try exact ⟨⟩)
  simp [resD_two, rvD, lk, D.plain, D.isPure, optAll]

theorem Tryz.over (n : Int) (d : Nat) (hd : 0 < d) (h1 : dl n ≤ 20000) (h2 : dl (d : Int) ≤ 20000) : Con Tryz.prog Tryz.L 90 [.str (tz n), .str (tz (d : Int))] (.str (rt (mkRat n d))) := by
 refine rule90 Tryz.hL rfl rfl rfl ?_
 (simp only [pc90, rs90, oU, oC]; refine ev ?_; try exact ⟨⟩)
 refine callF_of (Tryz.rnew n d hd h1 h2) ?_
 (refine ev ?_; try exact ⟨⟩)

theorem Tryz.sindex {f : Nat} {caps : List D} (p : Tm → Bool) (l : List Tm) (hl : l.length ≤ 1000) (h : ∀ x ∈ l, Con Tryz.prog Tryz.L f ([.agg (tD x)] ++ caps) (.bool (p x))) :
  Con Tryz.prog Tryz.L 146 [.sl l.length (tms l), .clo f caps] (.int .i64 (ixA p l 0)) := by
 refine rule146 Tryz.hL rfl rfl rfl ?_
 (simp only [pc146, rs146, oU, oC]; refine ev ?_; try exact ⟨⟩)
 refine loopF_of (fun E => ∃ k : Nat, k ≤ l.length ∧ ixA p l 0 = ixA p (l.drop k) k ∧ E = [(0, .sl l.length (tms l)), (1, .clo f caps), (7, .int .i64 l.length), (8, .int .i64 k)])
  (fun E => match lk E 8 with | .int _ i => l.length - i.toNat | _ => 0) ⟨0, Nat.zero_le _, rfl, rfl⟩ ?_
 rintro _ ⟨k, hk, hi, rfl⟩
 simp only [evX, evY, evZ, forall_const, implies_true, initE, stepF, D.clean, mvF, moF, tkF, shF, ariF, ciF, catF, scF, ebF, eqF, eqOk, eqPr, enF, notF, ngF, cvF, csF, csbF, lenF, lenSF, ixF, iaF, PX.slot, iaAF, faF, ldF, D.mem, stF, bxF, mkSF, boundF, fldF, ixAF, mmF2, D.plain, D.isPure, optAll, D.dull, callVF, splice, D.cells, D.one, sets, resT, D.flat, D.flat0, D.simple, Nat.reduceBNe, Nat.reduceLT, reduceIte, Nat.reduceEqDiff, Nat.reduceAdd, Nat.reduceMul, Nat.reduceSub, Nat.reduceLeDiff, Int.reduceToNat, Int.reduceLT, Int.reduceLE, Int.reduceEq, Int.reduceNeg, Int.reduceSub, Int.reduceAdd, Int.reduceMul, stG_own, ldC_tms]
 refine ⟨fun h1 => ?_, fun h1 => ?_⟩
 ·have hx : l[k]? = some (l[k]'(by omega)) := List.getElem?_eq_getElem (by omega)
  generalize l[k]'(by omega) = x at hx
  have hd := dropc hx
  refine ⟨⟨by omega, by rw [rows_length tD_len]; omega⟩, x, hx, ?_⟩
  refine callF_of (h x (List.mem_of_getElem? hx)) ?_
  (refine ev ?_; try exact ⟨⟩)
  rw [hd] at hi
  simp only [ixA] at hi
  cases hp : p x with
  | true =>
    (refine ev ?_; try exact ⟨⟩)
    rw [hi, hp]; rfl
  | false =>
    (refine ev ?_; try exact ⟨⟩)
    have hi2 : ixA p l 0 = ixA p (l.drop (k + 1)) (k + 1) := by rw [hi, hp]; rfl
    refine ⟨by omega, ⟨k + 1, by omega, hi2, rfl⟩, by omega⟩
 ·have : k = l.length := by omega
  subst this
  rw [hi]; simp [ixA]

theorem Tryz.scontains {f : Nat} {caps : List D} (p : Tm → Bool) (l : List Tm) (hl : l.length ≤ 1000) (h : ∀ x ∈ l, Con Tryz.prog Tryz.L f ([.agg (tD x)] ++ caps) (.bool (p x))) :
  Con Tryz.prog Tryz.L 120 [.sl l.length (tms l), .clo f caps] (.bool (l.any p)) := by
 refine rule120 Tryz.hL rfl rfl rfl ?_
 (simp only [pc120, rs120, oU, oC]; refine ev ?_; try exact ⟨⟩)
 refine callF_of (Tryz.sindex p l hl h) ?_
 (refine ev ?_; try exact ⟨⟩)
 rw [show dB (0 ≤ ixA p l 0) = l.any p by
  cases h2 : l.any p with
  | true => exact dB_iff.2 (ixA_any.2 h2)
  | false => exact dB_not.2 (fun h3 => by rw [ixA_any.1 h3] at h2; cases h2)]
end Go.Proofs

/- The readings of functions that append to fields, printed by program (mkr22f.py). Own work. -/
namespace Go.Proofs
open Go Go.Pi Go.RowKit
set_option maxRecDepth 100000

/-- klippe/klippelaw40.Make -/
def pc17f : PC := .seq (.reg [
 ⟨some 1, .bx 3 (.v 0), none⟩,
 ⟨some 2, .alloc [.str [], .str [], .sl 0 [], .sl 0 []], none⟩] [1, 2])
 (.seq (.reg [
  ⟨some 7, .fa 0 (.v 1), none⟩,
  ⟨some 8, .iaA 2 1 (.o 7 1) (.k (.int .i64 0)), none⟩,
  ⟨some 9, .ld false 1 (.o 8 1), none⟩,
  ⟨some 10, .cvI .i64 (.v 9), none⟩,
  ⟨some 11, .ari .rem .i64 (.v 10) (.k (.int .i64 10)), none⟩,
  ⟨some 12, .fa 0 (.v 1), none⟩,
  ⟨some 13, .iaA 2 1 (.o 12 1) (.k (.int .i64 1)), none⟩,
  ⟨some 14, .ld false 1 (.o 13 1), none⟩,
  ⟨some 15, .cvI .i64 (.v 14), none⟩,
  ⟨some 16, .ari .rem .i64 (.v 15) (.k (.int .i64 10)), none⟩,
  ⟨some 17, .call 44 [.v 11, .v 16], none⟩,
  ⟨some 18, .bld [.str [], .str [], .sl 0 [.un], .sl 0 [.un]] [(0, 2, .v 17)], none⟩,
  ⟨some 3, .alloc [.str [], .str [], .sl 0 [.un], .sl 0 [.un]], none⟩,
  ⟨none, .st 4 (.v 3) (.v 18), none⟩] [1, 2, 3, 4000003, 5000003])
  (.seq (.seq (.reg [
    ⟨some 4, .cp (.k (.int .i64 0)), none⟩] [1, 2, 3, 4, 4000003, 5000003])
   (.blk 0 (.loop (.seq (.seq (.reg [
         ⟨some 19, .cp (.v 4), none⟩,
         ⟨some 20, .fa 2 (.v 1), none⟩,
         ⟨some 21, .ld false 1 (.o 20 1), none⟩,
         ⟨some 22, .len (.v 21), none⟩,
         ⟨some 23, .ci .lss (.v 19) (.v 22), none⟩,
         ⟨some 24, .cp (.v 23), none⟩,
         ⟨some 25, .cp (.v 4), (some (24, true))⟩,
         ⟨some 26, .ci .lss (.v 25) (.k (.int .i64 4)), (some (24, true))⟩,
         ⟨some 27, .pick (.v 24) (.v 26) (.k (.bool false)), none⟩] [1, 2, 3, 4, 27, 4000003, 5000003])
     (.cnd (.v 27) (.skip)
      (.exit 0)))
    (.seq (.blk 1 (.seq (.reg [
      ⟨some 31, .fa 2 (.v 1), none⟩,
      ⟨some 32, .ld false 1 (.o 31 1), none⟩,
      ⟨some 33, .cp (.v 4), none⟩,
      ⟨some 34, .ia 2 (.v 32) (.v 33), none⟩,
      ⟨some 35, .iaA 2 1 (.v 34) (.k (.int .i64 0)), none⟩,
      ⟨some 36, .ld false 1 (.o 35 34), none⟩,
      ⟨some 37, .cvI .i64 (.v 36), none⟩,
      ⟨some 38, .ari .rem .i64 (.v 37) (.k (.int .i64 6)), none⟩,
      ⟨some 39, .call 22 [.v 38, .k (.int .i64 6)], none⟩,
      ⟨some 30, .cp (.v 39), none⟩,
      ⟨some 40, .ext 30 0, none⟩,
      ⟨some 41, .ext 30 1, none⟩,
      ⟨some 5, .cp (.v 40), none⟩,
      ⟨some 6, .cp (.v 41), none⟩] [1, 2, 3, 4, 5, 4000003, 5000003])
     (.seq (.reg [
      ⟨some 42, .faM 3 2, none⟩,
      ⟨some 43, .lgM 42 3 2, none⟩,
      ⟨some 44, .cp (.v 5), none⟩,
      ⟨some 45, .bldS 22 [.str []] 1 [(0, 1, .v 44)], none⟩,
      ⟨some 46, .app 22 1 16 (.o 43 4000003) (.v 45), none⟩,
      ⟨some 47, .faM 3 2, none⟩,
      ⟨none, .sgM 47 3 2 (.v 46) [42, 43], none⟩] [1, 2, 3, 4, 4000003, 5000003])
      (.reg [
       ⟨some 48, .faM 3 3, none⟩,
       ⟨some 49, .lgM 48 3 3, none⟩,
       ⟨some 50, .fa 2 (.v 1), none⟩,
       ⟨some 51, .ld false 1 (.o 50 1), none⟩,
       ⟨some 52, .cp (.v 4), none⟩,
       ⟨some 53, .ia 2 (.v 51) (.v 52), none⟩,
       ⟨some 54, .iaA 2 1 (.v 53) (.k (.int .i64 1)), none⟩,
       ⟨some 55, .ld false 1 (.o 54 53), none⟩,
       ⟨some 56, .cvI .i64 (.v 55), none⟩,
       ⟨some 57, .fa 2 (.v 1), none⟩,
       ⟨some 58, .ld false 1 (.o 57 1), none⟩,
       ⟨some 59, .cp (.v 4), none⟩,
       ⟨some 60, .ia 2 (.v 58) (.v 59), none⟩,
       ⟨some 61, .iaA 2 1 (.v 60) (.k (.int .i64 1)), none⟩,
       ⟨some 62, .ld false 1 (.o 61 60), none⟩,
       ⟨some 63, .cvI .i64 (.v 62), none⟩,
       ⟨some 64, .ng .i64 (.v 63), none⟩,
       ⟨some 65, .mm true [.v 56, .v 64], none⟩,
       ⟨some 66, .ari .rem .i64 (.v 65) (.k (.int .i64 6)), none⟩,
       ⟨some 67, .ari .add .i64 (.k (.int .i64 1)) (.v 66), none⟩,
       ⟨some 68, .call 58 [.v 67], none⟩,
       ⟨some 69, .bldS 22 [.str []] 1 [(0, 1, .v 68)], none⟩,
       ⟨some 70, .app 22 1 16 (.o 49 5000003) (.v 69), none⟩,
       ⟨some 71, .faM 3 3, none⟩,
       ⟨none, .sgM 71 3 3 (.v 70) [48, 49], none⟩] [1, 2, 3, 4, 4000003, 5000003]))))
     (.reg [
      ⟨some 28, .cp (.v 4), none⟩,
      ⟨some 29, .ari .add .i64 (.v 28) (.k (.int .i64 1)), none⟩,
      ⟨some 4, .cp (.v 29), none⟩] [1, 2, 3, 4, 4000003, 5000003]))))))
   (.seq (.seq (.reg [
     ⟨some 72, .faM 3 2, none⟩,
     ⟨some 73, .lgM 72 3 2, none⟩,
     ⟨some 74, .len (.o 73 4000003), none⟩,
     ⟨some 75, .ci .eql (.v 74) (.k (.int .i64 0)), none⟩] [2, 3, 75, 4000003, 5000003])
    (.cnd (.v 75) (.reg [
     ⟨some 76, .bldS 22 [.str []] 1 [(0, 1, .k (.str [48]))], none⟩,
     ⟨some 77, .bldS 22 [.str []] 1 [(0, 1, .k (.str [49]))], none⟩,
     ⟨some 78, .faM 3 2, none⟩,
     ⟨none, .sgM 78 3 2 (.v 76) [], none⟩,
     ⟨some 79, .faM 3 3, none⟩,
     ⟨none, .sgM 79 3 3 (.v 77) [78], none⟩] [2, 3, 4000003, 5000003])
     (.skip)))
    (.seq (.reg [
     ⟨some 80, .ldM 4 3 [4000003, 5000003], none⟩,
     ⟨none, .st 4 (.v 2) (.v 80), none⟩] [2])
     (.ret)))))
def rs17f : List RV := [.c 2 true 4]
theorem chk17f : chkFn Tryz.prog Tryz.f17 1 pc17f rs17f = true := by kernel_rfl
theorem rule17f {L : World → Prop} (hL : ∀ w w', L w → Below w.heap.size w w' → L w') {ds : List D} {r : D} (hr0 : aliasOf r = none) (hlen : ds.length = 1) (hp : ds.all (fun d => (aliasOf d).isNone) = true)
  (h : wC (Con Tryz.prog L) pc17f (retQ rs17f r) (initE 0 ds)) : Con Tryz.prog L 17 ds r :=
 con_chk hL Tryz.func17 chk17f hr0 hlen hp (wC_sound h)

/-- klippe/klippelaw40.of -/
def pc18f : PC := .seq (.reg [
 ⟨some 1, .bx 4 (.v 0), none⟩,
 ⟨some 2, .alloc [.sl 0 [], .sl 0 []], none⟩] [1, 2])
 (.seq (.reg [
  ⟨some 9, .fa 2 (.v 1), none⟩,
  ⟨some 10, .ld false 1 (.o 9 1), none⟩,
  ⟨some 11, .len (.v 10), none⟩,
  ⟨some 3, .cp (.v 11), none⟩] [1, 2, 3])
  (.seq (.reg [
   ⟨some 12, .fa 0 (.v 1), none⟩,
   ⟨some 13, .ld true 2 (.o 12 1), none⟩,
   ⟨some 14, .bldS 25 [.str [], .str []] 1 [(0, 2, .v 13)], none⟩,
   ⟨some 15, .fa 2 (.v 1), none⟩,
   ⟨some 16, .ld false 1 (.o 15 1), none⟩,
   ⟨some 17, .ia 1 (.v 16) (.k (.int .i64 0)), none⟩,
   ⟨some 18, .ld false 1 (.v 17), none⟩,
   ⟨some 19, .call 59 [.v 18], none⟩,
   ⟨some 20, .bldS 25 [.str [], .str []] 1 [(0, 2, .v 19)], none⟩,
   ⟨some 21, .bldQ 14 20, none⟩,
   ⟨some 4, .alloc [.sl 0 [], .sl 0 []], none⟩,
   ⟨none, .stQ 4 21, none⟩] [1, 2, 3, 4, 2000004, 3000004])
   (.seq (.seq (.reg [
     ⟨some 5, .cp (.k (.int .i64 0)), none⟩] [1, 2, 3, 4, 5, 2000004, 3000004])
    (.blk 0 (.loop (.seq (.seq (.reg [
          ⟨some 22, .cp (.v 5), none⟩,
          ⟨some 23, .cp (.v 3), none⟩,
          ⟨some 24, .ci .lss (.v 22) (.v 23), none⟩] [1, 2, 3, 4, 5, 24, 2000004, 3000004])
      (.cnd (.v 24) (.skip)
       (.exit 0)))
     (.seq (.blk 1 (.seq (.reg [
       ⟨some 27, .faM 4 0, none⟩,
       ⟨some 28, .lgM 27 4 0, none⟩,
       ⟨some 29, .faM 4 0, none⟩,
       ⟨some 30, .lgD 29 4 0, none⟩,
       ⟨some 31, .cp (.v 5), none⟩,
       ⟨some 32, .ia 2 (.v 30) (.v 31), none⟩,
       ⟨some 33, .ld true 2 (.v 32), none⟩,
       ⟨some 34, .fa 3 (.v 1), none⟩,
       ⟨some 35, .ld false 1 (.o 34 1), none⟩,
       ⟨some 36, .cp (.v 5), none⟩,
       ⟨some 37, .ia 1 (.v 35) (.v 36), none⟩,
       ⟨some 38, .ld false 1 (.v 37), none⟩,
       ⟨some 39, .fa 2 (.v 1), none⟩,
       ⟨some 40, .ld false 1 (.o 39 1), none⟩,
       ⟨some 41, .cp (.v 5), none⟩,
       ⟨some 42, .ia 1 (.v 40) (.v 41), none⟩,
       ⟨some 43, .ld false 1 (.v 42), none⟩,
       ⟨some 44, .call 16 [.v 43], none⟩,
       ⟨some 45, .call 45 [.v 33, .v 38, .v 44], none⟩,
       ⟨some 46, .bldS 25 [.str [], .str []] 1 [(0, 2, .v 45)], none⟩,
       ⟨some 47, .app 25 2 32 (.o 28 2000004) (.v 46), none⟩,
       ⟨some 48, .faM 4 0, none⟩,
       ⟨none, .sgM 48 4 0 (.v 47) [27, 28, 29], none⟩] [1, 2, 3, 4, 5, 2000004, 3000004])
      (.seq (.reg [
       ⟨some 49, .cp (.v 5), none⟩,
       ⟨some 50, .ari .add .i64 (.v 49) (.k (.int .i64 1)), none⟩,
       ⟨some 51, .cp (.v 3), none⟩,
       ⟨some 52, .ci .lss (.v 50) (.v 51), none⟩] [1, 2, 3, 4, 5, 52, 2000004, 3000004])
       (.cnd (.v 52) (.seq (.reg [
         ⟨some 53, .fa 2 (.v 1), none⟩,
         ⟨some 54, .ld false 1 (.o 53 1), none⟩,
         ⟨some 55, .cp (.v 5), none⟩,
         ⟨some 56, .ia 1 (.v 54) (.v 55), none⟩,
         ⟨some 57, .ld false 1 (.v 56), none⟩,
         ⟨some 58, .call 59 [.v 57], none⟩,
         ⟨some 59, .fa 2 (.v 1), none⟩,
         ⟨some 60, .ld false 1 (.o 59 1), none⟩,
         ⟨some 61, .cp (.v 5), none⟩,
         ⟨some 62, .ari .add .i64 (.v 61) (.k (.int .i64 1)), none⟩,
         ⟨some 63, .ia 1 (.v 60) (.v 62), none⟩,
         ⟨some 64, .ld false 1 (.v 63), none⟩,
         ⟨some 65, .call 59 [.v 64], none⟩,
         ⟨some 6, .alloc [.str [], .str []], none⟩,
         ⟨some 7, .alloc [.str [], .str []], none⟩,
         ⟨none, .st 2 (.v 6) (.v 58), none⟩,
         ⟨none, .st 2 (.v 7) (.v 65), none⟩] [1, 2, 3, 4, 5, 6, 7, 2000004, 3000004])
        (.seq (.reg [
         ⟨some 66, .ld true 2 (.v 6), none⟩,
         ⟨some 67, .ld true 2 (.v 7), none⟩,
         ⟨some 68, .call 47 [.v 66, .v 67], none⟩,
         ⟨some 69, .call 23 [.k (.str [49]), .v 68], none⟩,
         ⟨some 70, .call 57 [.k (.str [49]), .v 69], none⟩,
         ⟨some 8, .cp (.v 70), none⟩] [1, 2, 3, 4, 5, 6, 7, 8, 2000004, 3000004])
         (.reg [
          ⟨some 71, .faM 4 1, none⟩,
          ⟨some 72, .lgM 71 4 1, none⟩,
          ⟨some 73, .cp (.v 8), none⟩,
          ⟨some 74, .fa 0 (.v 6), none⟩,
          ⟨some 75, .ld false 1 (.o 74 6), none⟩,
          ⟨some 76, .fa 0 (.v 7), none⟩,
          ⟨some 77, .ld false 1 (.o 76 7), none⟩,
          ⟨some 78, .call 23 [.v 75, .v 77], none⟩,
          ⟨some 79, .call 29 [.v 73, .v 78], none⟩,
          ⟨some 80, .cp (.v 8), none⟩,
          ⟨some 81, .fa 1 (.v 6), none⟩,
          ⟨some 82, .ld false 1 (.o 81 6), none⟩,
          ⟨some 83, .fa 1 (.v 7), none⟩,
          ⟨some 84, .ld false 1 (.o 83 7), none⟩,
          ⟨some 85, .call 23 [.v 82, .v 84], none⟩,
          ⟨some 86, .call 29 [.v 80, .v 85], none⟩,
          ⟨some 87, .bld [.str [], .str []] [(0, 1, .v 79), (1, 1, .v 86)], none⟩,
          ⟨some 88, .bldS 25 [.str [], .str []] 1 [(0, 2, .v 87)], none⟩,
          ⟨some 89, .app 25 2 32 (.o 72 3000004) (.v 88), none⟩,
          ⟨some 90, .faM 4 1, none⟩,
          ⟨none, .sgM 90 4 1 (.v 89) [71, 72], none⟩] [1, 2, 3, 4, 5, 2000004, 3000004])))
        (.skip)))))
      (.reg [
       ⟨some 25, .cp (.v 5), none⟩,
       ⟨some 26, .ari .add .i64 (.v 25) (.k (.int .i64 1)), none⟩,
       ⟨some 5, .cp (.v 26), none⟩] [1, 2, 3, 4, 5, 2000004, 3000004]))))))
    (.seq (.reg [
     ⟨some 91, .faM 4 1, none⟩,
     ⟨some 92, .lgM 91 4 1, none⟩,
     ⟨some 93, .fa 2 (.v 1), none⟩,
     ⟨some 94, .ld false 1 (.o 93 1), none⟩,
     ⟨some 95, .cp (.v 3), none⟩,
     ⟨some 96, .ari .sub .i64 (.v 95) (.k (.int .i64 1)), none⟩,
     ⟨some 97, .ia 1 (.v 94) (.v 96), none⟩,
     ⟨some 98, .ld false 1 (.v 97), none⟩,
     ⟨some 99, .call 59 [.v 98], none⟩,
     ⟨some 100, .bldS 25 [.str [], .str []] 1 [(0, 2, .v 99)], none⟩,
     ⟨some 101, .app 25 2 32 (.o 92 3000004) (.v 100), none⟩,
     ⟨some 102, .faM 4 1, none⟩,
     ⟨none, .sgM 102 4 1 (.v 101) [91, 92], none⟩] [2, 4, 2000004, 3000004])
     (.seq (.reg [
      ⟨some 103, .ldM 2 4 [2000004, 3000004], none⟩,
      ⟨none, .st 2 (.v 2) (.v 103), none⟩] [2])
      (.ret))))))
def rs18f : List RV := [.c 2 true 2]
/-- klippe/kink.Of -/
def pc43f : PC := .seq (.reg [
 ⟨some 2, .alloc [.str [], .str [], .sl 0 [], .sl 0 []], none⟩,
 ⟨some 3, .cp (.k (.int .i64 0)), none⟩] [0, 2])
 (.seq (.blk 0 (.seq (.reg [
   ⟨some 12, .cp (.v 0), none⟩,
   ⟨some 13, .len (.v 12), none⟩,
   ⟨some 14, .ci .lss (.v 13) (.k (.int .i64 2)), none⟩,
   ⟨some 11, .cp (.v 14), none⟩] [0, 2, 11])
  (.cnd (.v 11) (.seq (.reg [
    ⟨some 15, .bld [.str [], .str [], .sl 0 [], .sl 0 []] [], none⟩,
    ⟨none, .st 4 (.v 2) (.v 15), none⟩,
    ⟨some 3, .cp (.k (.int .i64 5)), none⟩] [2, 3])
   (.ret))
   (.seq (.reg [
    ⟨some 17, .cp (.v 0), none⟩,
    ⟨some 18, .len (.v 17), none⟩,
    ⟨some 19, .ci .gtr (.v 18) (.k (.int .i64 21)), none⟩,
    ⟨some 16, .cp (.v 19), none⟩] [0, 2, 16])
    (.cnd (.v 16) (.seq (.reg [
      ⟨some 20, .bld [.str [], .str [], .sl 0 [], .sl 0 []] [], none⟩,
      ⟨none, .st 4 (.v 2) (.v 20), none⟩,
      ⟨some 3, .cp (.k (.int .i64 4)), none⟩] [2, 3])
     (.ret))
     (.skip))))))
  (.seq (.reg [
   ⟨some 4, .alloc [.str [], .str [], .sl 0 [.un], .sl 0 [.un]], none⟩] [0, 2, 4, 4000004, 5000004])
   (.seq (.seq (.reg [
     ⟨some 21, .cp (.v 0), none⟩,
     ⟨some 22, .len (.v 21), none⟩,
     ⟨some 23, .cp (.k (.int .i64 0)), none⟩] [0, 2, 4, 21, 22, 23, 4000004, 5000004])
    (.blk 1 (.loop (.seq (.reg [
      ⟨some 24, .ci .lss (.v 23) (.v 22), none⟩] [0, 2, 4, 21, 22, 23, 24, 4000004, 5000004])
     (.seq (.cnd (.v 24) (.skip)
      (.exit 1))
      (.seq (.blk 2 (.seq (.reg [
        ⟨some 25, .cp (.v 23), none⟩,
        ⟨some 26, .ia 2 (.v 21) (.v 23), none⟩,
        ⟨some 27, .ld true 2 (.v 26), none⟩,
        ⟨some 6, .alloc [.str [], .str []], none⟩,
        ⟨some 5, .cp (.v 25), none⟩,
        ⟨none, .st 2 (.v 6) (.v 27), none⟩] [0, 2, 4, 5, 6, 21, 22, 23, 4000004, 5000004])
       (.seq (.seq (.reg [
         ⟨some 28, .ld true 2 (.v 6), none⟩,
         ⟨some 29, .call 61 [.v 28], none⟩,
         ⟨some 30, .ci .neq (.v 29) (.k (.int .i64 0)), none⟩] [0, 2, 4, 5, 6, 21, 22, 23, 30, 4000004, 5000004])
        (.cnd (.v 30) (.seq (.reg [
          ⟨some 31, .bld [.str [], .str [], .sl 0 [], .sl 0 []] [], none⟩,
          ⟨none, .st 4 (.v 2) (.v 31), none⟩,
          ⟨some 3, .cp (.k (.int .i64 2)), none⟩] [2, 3])
         (.ret))
         (.skip)))
        (.seq (.seq (.reg [
          ⟨some 32, .cp (.v 5), none⟩,
          ⟨some 33, .ci .eql (.v 32) (.k (.int .i64 0)), none⟩] [0, 2, 4, 5, 6, 21, 22, 23, 33, 4000004, 5000004])
         (.cnd (.v 33) (.seq (.reg [
           ⟨some 34, .ld true 2 (.v 6), none⟩,
           ⟨some 35, .fa 0 (.v 4), none⟩,
           ⟨none, .st 2 (.o 35 4) (.v 34), none⟩] [0, 2, 4, 21, 22, 23, 4000004, 5000004])
          (.exit 2))
          (.skip)))
         (.seq (.reg [
          ⟨some 36, .ld true 2 (.v 6), none⟩,
          ⟨some 37, .cp (.v 0), none⟩,
          ⟨some 38, .cp (.v 5), none⟩,
          ⟨some 39, .ari .sub .i64 (.v 38) (.k (.int .i64 1)), none⟩,
          ⟨some 40, .ia 2 (.v 37) (.v 39), none⟩,
          ⟨some 41, .ld true 2 (.v 40), none⟩,
          ⟨some 42, .call 75 [.v 36, .v 41], none⟩,
          ⟨some 7, .alloc [.str [], .str []], none⟩,
          ⟨none, .st 2 (.v 7) (.v 42), none⟩] [0, 2, 4, 7, 21, 22, 23, 4000004, 5000004])
          (.seq (.seq (.reg [
            ⟨some 43, .fa 0 (.v 7), none⟩,
            ⟨some 44, .ld false 1 (.o 43 7), none⟩,
            ⟨some 45, .call 35 [.v 44], none⟩,
            ⟨some 46, .ci .leq (.v 45) (.k (.int .i64 0)), none⟩] [0, 2, 4, 7, 21, 22, 23, 46, 4000004, 5000004])
           (.cnd (.v 46) (.seq (.reg [
             ⟨some 47, .bld [.str [], .str [], .sl 0 [], .sl 0 []] [], none⟩,
             ⟨none, .st 4 (.v 2) (.v 47), none⟩,
             ⟨some 3, .cp (.k (.int .i64 7)), none⟩] [2, 3])
            (.ret))
            (.skip)))
           (.seq (.reg [
            ⟨some 49, .ld true 2 (.v 7), none⟩,
            ⟨some 50, .ld true 2 (.v 7), none⟩,
            ⟨some 51, .call 74 [.v 49, .v 50], none⟩,
            ⟨some 52, .call 46 [.v 51], none⟩,
            ⟨some 48, .cp (.v 52), none⟩,
            ⟨some 53, .ext 48 0, none⟩,
            ⟨some 54, .ext 48 1, none⟩,
            ⟨some 8, .cp (.v 53), none⟩,
            ⟨some 9, .cp (.v 54), none⟩] [0, 2, 4, 7, 8, 9, 21, 22, 23, 4000004, 5000004])
            (.seq (.seq (.reg [
              ⟨some 55, .cp (.v 9), none⟩,
              ⟨some 56, .not (.v 55), none⟩] [0, 2, 4, 7, 8, 21, 22, 23, 56, 4000004, 5000004])
             (.cnd (.v 56) (.seq (.reg [
               ⟨some 57, .bld [.str [], .str [], .sl 0 [], .sl 0 []] [], none⟩,
               ⟨none, .st 4 (.v 2) (.v 57), none⟩,
               ⟨some 3, .cp (.k (.int .i64 29)), none⟩] [2, 3])
              (.ret))
              (.skip)))
             (.seq (.reg [
              ⟨some 58, .faM 4 2, none⟩,
              ⟨some 59, .lgM 58 4 2, none⟩,
              ⟨some 60, .fa 1 (.v 7), none⟩,
              ⟨some 61, .ld false 1 (.o 60 7), none⟩,
              ⟨some 62, .cp (.v 8), none⟩,
              ⟨some 63, .fa 0 (.v 7), none⟩,
              ⟨some 64, .ld false 1 (.o 63 7), none⟩,
              ⟨some 65, .call 23 [.v 62, .v 64], none⟩,
              ⟨some 66, .call 63 [.v 61, .v 65], none⟩,
              ⟨some 67, .bldS 22 [.str []] 1 [(0, 1, .v 66)], none⟩,
              ⟨some 68, .app 22 1 16 (.o 59 4000004) (.v 67), none⟩,
              ⟨some 69, .faM 4 2, none⟩,
              ⟨none, .sgM 69 4 2 (.v 68) [58, 59], none⟩] [0, 2, 4, 8, 21, 22, 23, 4000004, 5000004])
              (.reg [
               ⟨some 70, .faM 4 3, none⟩,
               ⟨some 71, .lgM 70 4 3, none⟩,
               ⟨some 72, .cp (.v 8), none⟩,
               ⟨some 73, .bldS 22 [.str []] 1 [(0, 1, .v 72)], none⟩,
               ⟨some 74, .app 22 1 16 (.o 71 5000004) (.v 73), none⟩,
               ⟨some 75, .faM 4 3, none⟩,
               ⟨none, .sgM 75 4 3 (.v 74) [70, 71], none⟩] [0, 2, 4, 21, 22, 23, 4000004, 5000004]))))))))))
       (.reg [
        ⟨some 76, .ari .add .i64 (.v 23) (.k (.int .i64 1)), none⟩,
        ⟨some 23, .cp (.v 76), none⟩] [0, 2, 4, 21, 22, 23, 4000004, 5000004])))))))
    (.seq (.seq (.reg [
      ⟨some 77, .faM 4 2, none⟩,
      ⟨some 78, .lgM 77 4 2, none⟩,
      ⟨some 79, .len (.o 78 4000004), none⟩,
      ⟨some 80, .cp (.k (.int .i64 0)), none⟩] [2, 4, 79, 80, 4000004, 5000004])
     (.blk 3 (.loop (.seq (.reg [
       ⟨some 81, .ci .lss (.v 80) (.v 79), none⟩] [2, 4, 79, 80, 81, 4000004, 5000004])
      (.seq (.cnd (.v 81) (.skip)
       (.exit 3))
       (.seq (.blk 4 (.seq (.reg [
         ⟨some 82, .cp (.v 80), none⟩,
         ⟨some 10, .cp (.v 82), none⟩] [2, 4, 10, 79, 80, 4000004, 5000004])
        (.seq (.reg [
         ⟨some 83, .faM 4 2, none⟩,
         ⟨some 84, .lgM 83 4 2, none⟩,
         ⟨some 85, .cp (.v 10), none⟩,
         ⟨some 86, .ia 1 (.o 84 4000004) (.v 85), none⟩,
         ⟨some 87, .ld false 1 (.o 86 4000004), none⟩,
         ⟨some 88, .call 54 [.v 87], none⟩,
         ⟨some 89, .ci .neq (.v 88) (.k (.int .i64 0)), none⟩,
         ⟨some 90, .cp (.v 89), none⟩,
         ⟨some 91, .faM 4 3, (some (90, false))⟩,
         ⟨some 92, .lgM 91 4 3, (some (90, false))⟩,
         ⟨some 93, .cp (.v 10), (some (90, false))⟩,
         ⟨some 94, .ia 1 (.o 92 5000004) (.v 93), (some (90, false))⟩,
         ⟨some 95, .ld false 1 (.o 94 5000004), (some (90, false))⟩,
         ⟨some 96, .call 54 [.v 95], (some (90, false))⟩,
         ⟨some 97, .ci .neq (.v 96) (.k (.int .i64 0)), (some (90, false))⟩,
         ⟨some 98, .pick (.v 90) (.k (.bool true)) (.v 97), none⟩] [2, 4, 79, 80, 98, 4000004, 5000004])
         (.cnd (.v 98) (.seq (.reg [
           ⟨some 99, .bld [.str [], .str [], .sl 0 [], .sl 0 []] [], none⟩,
           ⟨none, .st 4 (.v 2) (.v 99), none⟩,
           ⟨some 3, .cp (.k (.int .i64 4)), none⟩] [2, 3])
          (.ret))
          (.skip)))))
        (.reg [
         ⟨some 100, .ari .add .i64 (.v 80) (.k (.int .i64 1)), none⟩,
         ⟨some 80, .cp (.v 100), none⟩] [2, 4, 79, 80, 4000004, 5000004])))))))
     (.seq (.reg [
      ⟨some 101, .ldM 4 4 [4000004, 5000004], none⟩,
      ⟨none, .st 4 (.v 2) (.v 101), none⟩,
      ⟨some 3, .cp (.k (.int .i64 0)), none⟩] [2, 3])
      (.ret))))))
def rs43f : List RV := [.c 2 true 4, .t 3]
end Go.Proofs

/-
 KINK: rational.Root; kink.Of. Own work.
-/
namespace Go.Proofs
open Go Go.Pi Go.RowKit Go.Ar Go.Ge Go.Kk

theorem sq_parts (r : Rat) : (r * r).num = r.num * r.num ∧ (r * r).den = r.den * r.den := by
 have hc : Nat.Coprime (r.num * r.num).natAbs (r.den * r.den) := by
  rw [Int.natAbs_mul]
  exact Nat.Coprime.mul_left (Nat.Coprime.mul_right r.reduced r.reduced) (Nat.Coprime.mul_right r.reduced r.reduced)
 have hz : r.den * r.den ≠ 0 := Nat.mul_ne_zero r.den_nz r.den_nz
 have e : (⟨r.num * r.num, r.den * r.den, hz, hc⟩ : Rat) = r * r := by rw [Rat.mk_eq_mkRat, mul_mk]
 rw [← e]; exact ⟨rfl, rfl⟩
end Go.Proofs

/-
 SURD: result, From, Of. Own work.
-/
namespace Go.Proofs
open Go Go.Pi Go.RowKit Go.Ar

abbrev sg (l : List Tm) : D := .sl l.length (tms l)
theorem tms_at {l : List Tm} {k : Nat} {x : Tm} (h : l[k]? = some x) : List.take 2 (List.drop (k * 2) (tms l)) = tD x := by
 obtain ⟨r, e⟩ := rows_at tD_len h
 rw [e]; rfl
/-- is a term too long? -/
def bigT (x : Tm) : Bool := decide (200 < rd x.1) || decide (200 < dl (x.2 : Int))
theorem chk_rt (q : Rat) : chk (okR (rt q)) = if rd q ≤ 200 then 0 else 2 := by
 split
 ·rename_i h; exact chk_t ((okR_rt q).2 h)
 ·rename_i h; exact chk_f (fun h2 => h ((okR_rt q).1 h2))
theorem Tryz.result1 (x : Tm) (h1 : rd x.1 ≤ 1000) (h2 : dl (x.2 : Int) ≤ 1000) : Con Tryz.prog Tryz.L 121 ([.agg (tD x)] ++ []) (.bool (bigT x)) := by
 have l1 := rt_len x.1
 have hr := Tryz.rcheck (rt x.1) (by omega)
 rw [chk_rt] at hr
 have hi := Tryz.icheckZ (x.2 : Int) h2
 unfold bigT
 refine rule121 Tryz.hL rfl rfl rfl ?_
 simp only [pc121, rs121, oU, oC, tD, List.append_nil, evX, evY, evZ, forall_const, implies_true, initE, stepF, D.clean, mvF, moF, tkF, shF, ariF, ciF, catF, scF, ebF, eqF, eqOk, eqPr, enF, notF, ngF, cvF, csF, csbF, lenF, lenSF, ixF, iaF, PX.slot, iaAF, faF, ldF, D.mem, stF, bxF, mkSF, boundF, fldF, ixAF, mmF2, D.plain, D.isPure, optAll, D.dull, callVF, splice, D.cells, D.one, sets, resT, D.flat, D.flat0, D.simple, Nat.reduceBNe, Nat.reduceLT, reduceIte, Nat.reduceEqDiff, Nat.reduceAdd, Nat.reduceMul, Nat.reduceSub, Nat.reduceLeDiff, Int.reduceToNat, Int.reduceLT, Int.reduceLE, Int.reduceEq, Int.reduceNeg, Int.reduceSub, Int.reduceAdd, Int.reduceMul, stG_own]
 refine callF_of hr ?_
 (refine ev ?_; try exact ⟨⟩)
 refine ⟨fun h3 => ?_, fun h3 => ?_⟩
 ·have h4 : rd x.1 ≤ 200 := by
   rcases Nat.lt_or_ge 200 (rd x.1) with h | h
   ·rw [if_neg (by omega)] at h3; exact absurd h3 (by decide)
   ·exact h
  rw [if_pos h4]
  refine callF_of hi ?_
  (refine ev ?_; try exact ⟨⟩)
  rw [show decide (200 < rd x.1) = false from decide_eq_false (by omega), Bool.false_or]
  by_cases h5 : dl (x.2 : Int) ≤ 200
  ·rw [if_pos h5, show decide (200 < dl (x.2 : Int)) = false from decide_eq_false (by omega), dB_f (by decide)]
  ·rw [if_neg h5, show decide (200 < dl (x.2 : Int)) = true from decide_eq_true (by omega), dB_t (by decide)]
 ·have h4 : ¬rd x.1 ≤ 200 := fun h => h3 (if_pos h)
  rw [show decide (200 < rd x.1) = true from decide_eq_true (by omega), Bool.true_or]

theorem Tryz.result_ok (l : List Tm) (hl : l.length ≤ 40) (h : ∀ x ∈ l, rd x.1 ≤ 200 ∧ dl (x.2 : Int) ≤ 200) : Con Tryz.prog Tryz.L 91 [sg l] (.tup [sg l, .int .i64 0]) := by
 refine rule91 Tryz.hL rfl rfl rfl ?_
 (simp only [pc91, rs91, oU, oC]; refine ev ?_; try exact ⟨⟩)
 refine ⟨fun _ => ?_, fun h1 => absurd h1 (by omega)⟩
 have hf : l.any bigT = false := by
  rw [List.any_eq_false]
  intro x hx
  obtain ⟨a, b⟩ := h x hx
  unfold bigT
  rw [show decide (200 < rd x.1) = false from decide_eq_false (by omega), show decide (200 < dl (x.2 : Int)) = false from decide_eq_false (by omega)]; decide
 have hc := Tryz.scontains bigT l (by omega) (fun x hx => Tryz.result1 x (by have := h x hx; omega) (by have := h x hx; omega))
 rw [hf] at hc
 refine callF_of hc ?_
 (refine ev ?_; try exact ⟨⟩)
 simp [resD_two, rvD, lk, D.plain, D.isPure, optAll]
theorem Tryz.result_big (l : List Tm) (hl : l.length ≤ 1000) (h : ∀ x ∈ l, rd x.1 ≤ 1000 ∧ dl (x.2 : Int) ≤ 1000) (hb : l.any bigT = true) : Con Tryz.prog Tryz.L 91 [sg l] (.tup [.sl 0 [], .int .i64 4]) := by
 refine rule91 Tryz.hL rfl rfl rfl ?_
 (simp only [pc91, rs91, oU, oC]; refine ev ?_; try exact ⟨⟩)
 have hc := Tryz.scontains bigT l hl (fun x hx => Tryz.result1 x (h x hx).1 (h x hx).2)
 rw [hb] at hc
 refine ⟨fun h1 => ?_, fun h1 => ?_⟩
 ·refine callF_of hc ?_
  (refine ev ?_; try exact ⟨⟩)
  simp [resD_two, rvD, lk, D.plain, D.isPure, optAll]
 ·simp [resD_two, rvD, lk, D.plain, D.isPure, optAll]

theorem Tryz.from (q : Rat) (hq : rd q ≤ 200) (h0 : q ≠ 0) : Con Tryz.prog Tryz.L 89 [.str (rt q)] (.tup [sg [(q, 1)], .int .i64 0]) := by
 refine rule89 Tryz.hL rfl rfl rfl ?_
 (simp only [pc89, rs89, oU, oC]; refine ev ?_; try exact ⟨⟩)
 refine callF_of (Tryz.rcheckQ q hq) ?_
 (refine ev ?_; try exact ⟨⟩)
 rw [rt_zero]
 refine ⟨fun h1 => absurd h1 h0, fun _ => ?_⟩
 simp [resD_two, rvD, lk, D.plain, D.isPure, optAll, rows, tD, (tz_one (z := 1)).2 rfl]

/-- the answer of Of at a right number -/
def ofL (q : Rat) : List Tm := if isq (q.num.natAbs * q.den) then [(mkRat (nrt (q.num.natAbs * q.den)) q.den, 1)] else [(mkRat 1 q.den, q.num.natAbs * q.den)]
def ofD (q : Rat) : D := if q.num < 0 then .tup [.sl 0 [], .int .i64 3] else if q = 0 then .tup [.sl 0 [], .int .i64 0]
 else if ¬isq (q.num.natAbs * q.den) ∧ 200 < dl ((q.num.natAbs * q.den : Nat) : Int) then .tup [.sl 0 [], .int .i64 4] else .tup [sg (ofL q), .int .i64 0]

theorem nrt_lt {m k : Nat} (h : m < 10 ^ (k + k)) : nrt m < 10 ^ k := by
 have h1 := (nrt_spec m).1
 rcases Nat.lt_or_ge (nrt m) (10 ^ k) with h3 | h3
 ·exact h3
 ·have h4 := Nat.mul_le_mul h3 h3
  rw [← Nat.pow_add] at h4
  exact absurd (Nat.lt_of_lt_of_le h (Nat.le_trans h4 h1)) (Nat.lt_irrefl _)
theorem nrt_rd {m d k : Nat} (hk : 0 < k) (hd : d ≠ 0) (h : (dd d).length ≤ k) (hm : dl (m : Int) ≤ k + k) : rd (mkRat (nrt m) d) ≤ k := by
 refine rd_mk hd ?_ h
 refine dd_len_le hk ?_
 rw [Int.natAbs_natCast]
 exact nrt_lt (Nat.lt_of_lt_of_le (dd_lt m) (Nat.pow_le_pow_right (by decide) hm))

theorem Tryz.of' (q : Rat) (hq : rd q ≤ 200) : Con Tryz.prog Tryz.L 49 [.str (rt q)] (ofD q) := by
 have hn := rd_num q
 have hd := rd_den q
 have hd0 : q.den ≠ 0 := q.den_nz
 have hdd : dl (q.den : Int) ≤ 200 := by rw [dl_nat]; omega
 refine rule49 Tryz.hL (by unfold ofD; (repeat' split) <;> rfl) rfl rfl ?_
 (simp only [pc49, rs49, oU, oC]; refine ev ?_; try exact ⟨⟩)
 refine callF_of (Tryz.rcheckQ q hq) ?_
 (refine ev ?_; try exact ⟨⟩)
 refine callF_of (Tryz.rsign q (by omega)) ?_
 (refine ev ?_; try exact ⟨⟩)
 rw [rt_zero]
 unfold ofD
 refine ⟨fun h1 => ?_, fun h1 => ⟨fun h2 => ?_, fun h2 => ?_⟩⟩
 ·rw [if_pos (Int.sign_eq_neg_one_iff_neg.1 (by rcases Int.sign_trichotomy q.num with h | h | h <;> omega))]
  simp [resD_two, rvD, lk, D.plain, D.isPure, optAll]
 ·subst h2
  simp [resD_two, rvD, lk, D.plain, D.isPure, optAll]
 have hnn : ¬q.num < 0 := fun h => by rw [Int.sign_eq_neg_one_iff_neg.2 h] at h1; exact h1 (by decide)
 have hn0 : q.num ≠ 0 := fun h => h2 ((sign_num q).2.1.1 h)
 rw [if_neg hnn, if_neg h2]
 have en : q.num = (q.num.natAbs : Int) := by omega
 have hm := Tryz.mul q.num q.den (by omega) (by omega)
 have hml := dl_mul q.num q.den
 rw [en, ← Int.natCast_mul, ← en] at hm
 rw [en, ← Int.natCast_mul, ← en] at hml
 refine callF_of (Tryz.rparts q (by omega)) ?_
 (refine ev ?_; try exact ⟨⟩)
 refine callF_of hm ?_
 (refine ev ?_; try exact ⟨⟩)
 have hmp : 0 < q.num.natAbs * q.den := Nat.mul_pos (by omega) q.den_pos
 have hnr := nrt_rd (m := q.num.natAbs * q.den) (k := 200) (by decide) hd0 (by omega) (by omega)
 have hov := Tryz.over (nrt (q.num.natAbs * q.den)) q.den q.den_pos (by have := dl_nrt (q.num.natAbs * q.den); omega) (by omega)
 have hn1 := dl_nrt (q.num.natAbs * q.den)
 have hrt := Tryz.sroot (q.num.natAbs * q.den) (by omega)
 have ho1 := Tryz.over 1 q.den q.den_pos (by rw [dl_one]; decide) (by omega)
 rw [(tz_one).2 rfl] at ho1
 have hr1 : rd (mkRat 1 q.den) ≤ 200 := rd_mk hd0 (by rw [dl_one]; decide) (by omega)
 have hrn : mkRat (nrt (q.num.natAbs * q.den)) q.den ≠ 0 := by
  intro h
  have := (Rat.mkRat_eq_zero hd0).1 h
  have h3 : nrt (q.num.natAbs * q.den) = 0 := by omega
  rw [nrt_zero] at h3; omega
 have hfr := Tryz.from _ hnr hrn
 unfold ofL
 generalize q.num.natAbs * q.den = m at *
 refine callF_of hrt ?_
 (refine ev ?_; try exact ⟨⟩)
 refine ⟨fun h3 => ?_, fun h3 => ?_⟩
 ·refine callF_of hov ?_
  (refine ev ?_; try exact ⟨⟩)
  refine callF_of hfr ?_
  (refine ev ?_; try exact ⟨⟩)
  rw [if_neg (fun h => h.1 h3), if_pos h3]
  simp [resD_two, rvD, lk, D.plain, D.isPure, optAll]
 ·refine callF_of ho1 ?_
  (refine ev ?_; try exact ⟨⟩)
  rw [if_neg h3]
  by_cases h4 : 200 < dl (m : Int)
  ·have hb := Tryz.result_big [(mkRat 1 q.den, m)] (by simp) (fun x hx => by rw [List.mem_singleton.1 hx]; exact ⟨by show rd (mkRat 1 q.den) ≤ 1000; omega, by show dl (m : Int) ≤ 1000; omega⟩) (by simp [bigT, h4])
   rw [if_pos ⟨h3, h4⟩]
   refine callF_of hb ?_
   (refine ev ?_; try exact ⟨⟩)
   simp [resD_two, rvD, lk, D.plain, D.isPure, optAll]
  ·have hb := Tryz.result_ok [(mkRat 1 q.den, m)] (by simp) (fun x hx => by rw [List.mem_singleton.1 hx]; exact ⟨by show rd (mkRat 1 q.den) ≤ 200; omega, by show dl (m : Int) ≤ 200; omega⟩)
   rw [if_neg (fun h => h4 h.2)]
   refine callF_of hb ?_
   (refine ev ?_; try exact ⟨⟩)
   simp [resD_two, rvD, lk, D.plain, D.isPure, optAll]
end Go.Proofs

/-
 SURD: Check of a right surd. Own work.
-/
namespace Go.Proofs
open Go Go.Pi Go.RowKit Go.Ar

theorem dB_dec (p : Prop) [Decidable p] : dB p = decide p := by
 by_cases h : p
 ·rw [dB_t h, decide_eq_true h]
 ·rw [dB_f h, decide_eq_false h]
def tOk (x : Tm) : Prop := x.1 ≠ 0 ∧ rd x.1 ≤ 200 ∧ 0 < x.2 ∧ dl (x.2 : Int) ≤ 200 ∧ (isq x.2 → x.2 = 1)
structure SOk (l : List Tm) : Prop where
 len : l.length ≤ 40
 ok : ∀ x ∈ l, tOk x
 sep : ∀ (i j : Nat) (x y : Tm), i < j → l[i]? = some x → l[j]? = some y → x.2 < y.2 ∧ ¬isq (x.2 * y.2)

theorem Tryz.check1 (u t : Tm) (h1 : dl (u.2 : Int) ≤ 9000) (h2 : dl (t.2 : Int) ≤ 9000) : Con Tryz.prog Tryz.L 127 ([.agg (tD u)] ++ [.pt (tD t)]) (.bool (decide (isq (u.2 * t.2)))) := by
 refine rule127 Tryz.hL rfl rfl rfl ?_
 simp only [pc127, rs127, oU, oC, tD, List.cons_append, List.nil_append, evX, evY, evZ, forall_const, implies_true, initE, stepF, D.clean, mvF, moF, tkF, shF, ariF, ciF, catF, scF, ebF, eqF, eqOk, eqPr, enF, notF, ngF, cvF, csF, csbF, lenF, lenSF, ixF, iaF, PX.slot, iaAF, faF, ldF, D.mem, stF, bxF, mkSF, boundF, fldF, ixAF, mmF2, D.plain, D.isPure, optAll, D.dull, callVF, splice, D.cells, D.one, sets, resT, D.flat, D.flat0, D.simple, Nat.reduceBNe, Nat.reduceLT, reduceIte, Nat.reduceEqDiff, Nat.reduceAdd, Nat.reduceMul, Nat.reduceSub, Nat.reduceLeDiff, Int.reduceToNat, Int.reduceLT, Int.reduceLE, Int.reduceEq, Int.reduceNeg, Int.reduceSub, Int.reduceAdd, Int.reduceMul, stG_own]
 refine callF_of (Tryz.salike u.2 t.2 h1 h2) ?_
 (refine ev ?_; try exact ⟨⟩)
 rw [dB_dec]

set_option maxHeartbeats 4000000 in
theorem Tryz.check (l : List Tm) (h : SOk l) : Con Tryz.prog Tryz.L 95 [sg l] (.int .i64 0) := by
 have hl := h.len
 refine rule95 Tryz.hL rfl rfl rfl ?_
 (simp only [pc95, rs95, oU, oC]; refine ev ?_; try exact ⟨⟩)
 refine ⟨fun h1 => absurd h1 (by omega), fun _ => ?_⟩
 refine loopF_of (fun E => ∃ k : Nat, k ≤ l.length ∧ E = [(0, sg l), (10, sg l), (11, .int .i64 l.length), (12, .int .i64 k)])
  (fun E => match lk E 12 with | .int _ i => l.length - i.toNat | _ => 0) ⟨0, Nat.zero_le _, rfl⟩ ?_
 rintro _ ⟨k, hk, rfl⟩
 (refine ev ?_; try exact ⟨⟩)
 intro h3
 have hx : l[k]? = some (l[k]'(by omega)) := List.getElem?_eq_getElem (by omega)
 generalize l[k]'(by omega) = x at hx
 obtain ⟨a1, a2, a3, a4, a5⟩ := h.ok x (List.mem_of_getElem? hx)
 have hlt := rt_len x.1
 refine ⟨⟨by omega, by omega, by rw [rows_length tD_len]; omega⟩, ?_⟩
 rw [tms_at hx]
 simp only [tD, evX, evY, evZ, forall_const, implies_true, initE, stepF, D.clean, mvF, moF, tkF, shF, ariF, ciF, catF, scF, ebF, eqF, eqOk, eqPr, enF, notF, ngF, cvF, csF, csbF, lenF, lenSF, ixF, iaF, PX.slot, iaAF, faF, ldF, D.mem, stF, bxF, mkSF, boundF, fldF, ixAF, mmF2, D.plain, D.isPure, optAll, D.dull, callVF, splice, D.cells, D.one, sets, resT, D.flat, D.flat0, D.simple, Nat.reduceBNe, Nat.reduceLT, reduceIte, Nat.reduceEqDiff, Nat.reduceAdd, Nat.reduceMul, Nat.reduceSub, Nat.reduceLeDiff, Int.reduceToNat, Int.reduceLT, Int.reduceLE, Int.reduceEq, Int.reduceNeg, Int.reduceSub, Int.reduceAdd, Int.reduceMul, stG_own]
 refine callF_of (Tryz.rcheckQ x.1 a2) ?_
 (refine ev ?_; try exact ⟨⟩)
 rw [rt_zero]
 refine ⟨fun h4 => absurd h4 a1, fun _ => ?_⟩
 have hic := Tryz.icheckZ (x.2 : Int) (by omega)
 rw [if_pos a4] at hic
 refine callF_of hic ?_
 (refine ev ?_; try exact ⟨⟩)
 refine callF_of (Tryz.sign (x.2 : Int) (by rw [dd_tz]; have := dl_nat x.2; omega)) ?_
 (refine ev ?_; try exact ⟨⟩)
 rw [Int.sign_eq_one_of_pos (show (0 : Int) < x.2 by omega)]
 refine ⟨fun h4 => absurd h4 (by decide), fun _ => ?_⟩
 have hkl : (l.take k).length = k := by rw [List.length_take]; omega
 have hct := Tryz.scontains (f := 127) (caps := [.pt (tD x)]) (fun u => decide (isq (u.2 * x.2))) (l.take k) (by omega) (fun u hu => by
  obtain ⟨i, hi, hu2⟩ := List.mem_iff_getElem.1 hu
  have hu3 : l[i]? = some u := by
   have := List.getElem?_eq_getElem hi
   rw [hu2, List.getElem?_take] at this
   rw [if_pos (by omega)] at this; exact this
  exact Tryz.check1 u x (by have := (h.ok u (List.mem_of_getElem? hu3)).2.2.2.1; omega) (by omega))
 have hany : ((l.take k).any fun u => decide (isq (u.2 * x.2))) = false := by
  rw [List.any_eq_false]
  intro u hu
  obtain ⟨i, hi, hu2⟩ := List.mem_iff_getElem.1 hu
  have hu3 : l[i]? = some u := by
   have := List.getElem?_eq_getElem hi
   rw [hu2, List.getElem?_take] at this
   rw [if_pos (by omega)] at this; exact this
  have := (h.sep i k u x (by omega) hu3 hx).2
  simpa using this
 rw [hany, hkl, show tms (l.take k) = Go.Pi.cut 2 0 k (tms l) by rw [cut_rows tD_len, List.drop_zero]] at hct
 simp only [tD] at hct
 have hrl := rows_length tD_len l
 refine callF_of (Tryz.sroot x.2 (by omega)) ?_
 (refine ev ?_; try exact ⟨⟩)
 rw [tz_one]
 refine ⟨fun b1 => ⟨fun b2 => absurd (by have := a5 b1; omega) b2, fun b2 => ?_⟩, fun b1 => ?_⟩
 all_goals
  refine ⟨fun h4 => ?_, fun h4 => ?_⟩
  ·have hy : l[k - 1]? = some (l[k - 1]'(by omega)) := List.getElem?_eq_getElem (by omega)
   generalize l[k - 1]'(by omega) = y at hy
   have hyo := (h.ok y (List.mem_of_getElem? hy)).2.2.2.1
   have hlt := (h.sep (k - 1) k y x (by omega) hy hx).1
   refine ⟨by omega, ⟨by omega, by omega, by rw [hrl]; omega⟩, ?_⟩
   rw [show ((k : Int) - 1).toNat = k - 1 by omega, tms_at hy]
   simp only [tD, evX, evY, evZ, forall_const, implies_true, initE, stepF, D.clean, mvF, moF, tkF, shF, ariF, ciF, catF, scF, ebF, eqF, eqOk, eqPr, enF, notF, ngF, cvF, csF, csbF, lenF, lenSF, ixF, iaF, PX.slot, iaAF, faF, ldF, D.mem, stF, bxF, mkSF, boundF, fldF, ixAF, mmF2, D.plain, D.isPure, optAll, D.dull, callVF, splice, D.cells, D.one, sets, resT, D.flat, D.flat0, D.simple, Nat.reduceBNe, Nat.reduceLT, reduceIte, Nat.reduceEqDiff, Nat.reduceAdd, Nat.reduceMul, Nat.reduceSub, Nat.reduceLeDiff, Int.reduceToNat, Int.reduceLT, Int.reduceLE, Int.reduceEq, Int.reduceNeg, Int.reduceSub, Int.reduceAdd, Int.reduceMul, stG_own]
   refine callF_of (Tryz.compare (y.2 : Int) (x.2 : Int) (by omega) (by omega)) ?_
   (refine ev ?_; try exact ⟨⟩)
   rw [cmpZ_lt (by omega)]
   refine ⟨fun h5 => absurd h5 (by decide), fun _ => ⟨by omega, by omega, by omega, hrl.symm, ?_⟩⟩
   refine callF_of hct ?_
   (refine ev ?_; try exact ⟨⟩)
   exact ⟨by omega, ⟨k + 1, by omega, by simp⟩, by omega⟩
  ·refine ⟨by omega, by omega, by omega, hrl.symm, ?_⟩
   refine callF_of hct ?_
   (refine ev ?_; try exact ⟨⟩)
   exact ⟨by omega, ⟨k + 1, by omega, by simp⟩, by omega⟩
end Go.Proofs

/-
 ARITHMETIC: klipperef01: pieces of four digits: carry, joined, times, less. Own work.
-/
namespace Go.Proofs
open Go Go.Pi Go.RowKit Go.Ar

abbrev tt : Int := 10000
abbrev pq (n : Nat) : List Int := dgs 10000 n
abbrev nq (n : Nat) : D := .sl (pq n).length (ints .i64 (pq n))
/-- entries of a list are at most this great -/
def bnd (M : Int) (l : List Int) : Prop := ∀ x ∈ l, -M ≤ x ∧ x ≤ M
end Go.Proofs

/-
 ARITHMETIC: klipperef01.joined, times. Own work.
-/
namespace Go.Proofs
open Go Go.Pi Go.RowKit Go.Ar

theorem getD_set_ne {l : List Int} {j k : Nat} {x : Int} (h : j ≠ k) : (l.set j x).getD k 0 = l.getD k 0 := by
 rw [List.getD_eq_getElem?_getD, List.getElem?_set_ne h, ← List.getD_eq_getElem?_getD]
end Go.Proofs

/-
 ARITHMETIC: klipperef01 by texts. Own work.
-/
namespace Go.Proofs
open Go Go.Pi Go.RowKit Go.Ar

end Go.Proofs

/-
 ARITHMETIC: klipperef01: Small, brief, Add, Sub, Compare, Mul. Own work.
-/
namespace Go.Proofs
open Go Go.Pi Go.RowKit Go.Ar

end Go.Proofs

/-
 ARITHMETIC: klipperef01: parts, DivMod, Gcd, Right. Own work.
-/
namespace Go.Proofs
open Go Go.Pi Go.RowKit Go.Ar

end Go.Proofs

/-
 ARITHMETIC: klipperef01: DivMod, Gcd, Canonical, Right. Own work.
-/
namespace Go.Proofs
open Go Go.Pi Go.RowKit Go.Ar

end Go.Proofs

/-
 ARITHMETIC: klipperef01.Power, Root. Own work.
-/
namespace Go.Proofs
open Go Go.Pi Go.RowKit Go.Ar

end Go.Proofs

/-
 SURD: Text by hand (strings.Builder). Own work. UNDER WAY.
-/
namespace Go.Proofs
open Go Go.Pi Go.RowKit Go.Shelf Go.Ar
attribute [local go_sem] Oper.semAt_some

/-- the text of a term -/
def termT (first : Bool) (x : Tm) : List UInt8 :=
 (if x.1 < 0 then (if first then [45] else [32, 45, 32]) else (if first then [] else [32, 43, 32])) ++
 (if x.2 = 1 then rt (absQ x.1) else if absQ x.1 = 1 then [115, 113, 114, 116, 40] ++ tz (x.2 : Int) ++ [41] else rt (absQ x.1) ++ [32, 115, 113, 114, 116, 40] ++ tz (x.2 : Int) ++ [41])
def sumT : Bool → List Tm → List UInt8
 | _, [] => []
 | b, x :: l => termT b x ++ sumT false l

theorem below_heap {W W' : World} (hb : Below W.heap.size W W') {k : Nat} {o : Obj} (ho : W.heap[k]? = some o) : W'.heap[k]? = some o := by
 rw [hb.block k (Array.getElem?_eq_some_iff.1 ho).1]; exact ho
end Go.Proofs

/-
 SURD: klipperef03: Square, Make, Parts, Of, Same; the law's plain. Own work.
-/
namespace Go.Proofs
open Go Go.Pi Go.RowKit Go.Ar

end Go.Proofs

/-
 SURD: klipperef03: Parts, Of. Own work.
-/
namespace Go.Proofs
open Go Go.Pi Go.RowKit Go.Ar

end Go.Proofs

/-
 SURD: klipperef03: Plus, Times, Alike, insert, Join. Own work.
-/
namespace Go.Proofs
open Go Go.Pi Go.RowKit Go.Ar

/-- a term put into its place -/
def insM (x : Tm) : List Tm → List Tm
 | [] => [x]
 | y :: l => if x.2 < y.2 then x :: y :: l else y :: insM x l
def isIn (x : Tm) (l : List Tm) : Bool := l.any fun y => decide (x.2 < y.2)
theorem take_snoc {α : Type} {l : List α} {k : Nat} {x : α} (h : l[k]? = some x) : l.take (k + 1) = l.take k ++ [x] := by rw [List.take_add_one, h]; rfl

end Go.Proofs

/-
 SURD: klipperef03.Join. Own work.
-/
namespace Go.Proofs
open Go Go.Pi Go.RowKit Go.Ar

/-- the least radicand that is alike, the sum of the factors, the sum of surds -/
def leastM (all : List Tm) (r : Nat) : Nat := all.foldl (fun m x => if isq (x.2 * r) ∧ x.2 < m then x.2 else m) r
def sumM (all : List Tm) (m : Nat) : Rat := all.foldl (fun s x => if isq (x.2 * m) then s + x.1 * mkRat (nrt (x.2 * m)) m else s) 0
def freshIn (pre : List Tm) (r : Nat) : Bool := pre.all fun y => !decide (isq (y.2 * r))
def joinS (all pre out : List Tm) (x : Tm) : List Tm := if freshIn pre x.2 = false then out else if sumM all (leastM all x.2) = 0 then out else insM (sumM all (leastM all x.2), leastM all x.2) out
def joinT (all : List Tm) : Nat → List Tm
 | 0 => []
 | i + 1 => match all[i]? with
   | some x => joinS all (all.take i) (joinT all i) x
   | none => joinT all i
def joinL (all : List Tm) : List Tm := joinT all all.length
def mulT (k : Rat) (b : List Tm) : List Tm := b.map fun x => (x.1 * k, x.2)

theorem tms_drop {l : List Tm} {k : Nat} {x : Tm} (h : l[k]? = some x) : ∃ r, List.drop (k * 2) (tms l) = .str (rt x.1) :: .str (tz (x.2 : Int)) :: r ∧ List.drop (k * 2 + 1) (tms l) = .str (tz (x.2 : Int)) :: r := by
 obtain ⟨r, e⟩ := rows_at tD_len h
 exact ⟨r, e, by rw [← List.drop_drop, e]; rfl⟩
/-- a term of a list that is joined -/
def tBd (x : Tm) : Prop := rd x.1 ≤ 450 ∧ 0 < x.2 ∧ dl (x.2 : Int) ≤ 200
theorem dl_nmul (m n : Nat) : dl ((m * n : Nat) : Int) ≤ dl (m : Int) + dl (n : Int) := by rw [Int.natCast_mul]; exact dl_mul m n
theorem rd_root {r m : Nat} (hm : 0 < m) (h1 : dl (r : Int) ≤ 200) (h2 : dl (m : Int) ≤ 200) : rd (mkRat (nrt (r * m)) m) ≤ 400 := by
 refine rd_mk (by omega) ?_ (by have := dl_nat m; omega)
 have h3 := dl_nrt (r * m)
 have h4 := dl_nmul r m
 omega
/-- what a slot holds -/
def outD (e : Nat) (l : List Tm) : D := if l = [] then .own true e 0 [] else sg l
end Go.Proofs
