/-
  A SLICE COMPARED WITH nil, before a branch: both ways are open for an empty slice. Own work.
-/
import Derived.Test.YtpddmheiacgejaaGreatDoorPi
import Derived.OwnWalkIn
namespace Go.Pi
open Go Go.RowKit

variable {P : Program} {L : World → Prop} {n : Nz} {S0 S : Nat → Nat → Prop} {w0 w : World} {O : Nat → Option Nat} {g : G} {tm : Array Value}

theorem run_equal_slice {t e : TypeId} (hu : P.underlying t = some (.slice e)) (a : Option Addr) (m c : Nat) : (Op.equal t (.slice a m c) (.slice none 0 0)).run P w = .ok a.isNone w := by
  unfold Op.equal
  show (Op.equalIn (9999 + 1) t (.slice a m c) (.slice none 0 0)).run P w = _
  unfold Op.equalIn
  cases a <;> simp [run_underlying hu]

/-- slot x is a slice; t2 says whether it is nil -/
def nilT (x t2 : Nat) (out : List Nat) : PT where
  f := fun M E => ∃ m cs, (lk E x).slv = some (m, cs) ∧ ∀ b : Bool, (b = true → m = 0) → M (sets (keepE out E) [(t2, .bool b)])
  mono := fun hM ⟨m, cs, h1, h2⟩ => ⟨m, cs, h1, fun b hb => hM _ (h2 b hb)⟩

theorem nilT_ok {rid x t1 t2 : Nat} {out : List Nat} {ops : Array Oper} {o1 o2 : Oper} {ty ty2 e : TypeId} (hops : ops.toList = [o1, o2])
    (h1 : o1.op = .move (.tmp x)) (h1d : o1.dst = some t1) (h1g : o1.guard = none) (h2 : o2.op = .binOp .eql ty (.tmp t1) (.const (.slice none 0 0)) ty2) (h2d : o2.dst = some t2) (h2g : o2.guard = none)
    (hu : P.underlying ty = some (.slice e)) (hx : x < GB) (hout : out.all (fun t => t != t1 && t != t2) = true) (h12 : t1 ≠ t2) :
    CusOk P L (.region rid ops false) [t1, t2] (nilT x t2 out) := by
  intro nn rd okf S0 w0 n0 df0 M Qc E tm w n df hws hL0 had hna hg hT hQ
  obtain ⟨m, cs, hsl, hM⟩ := hT
  have ht1 := had.1 t1 (hws t1 (by simp))
  have ht2 := had.1 t2 (hws t2 (by simp))
  have hno : ∀ t, t ∈ out → t ≠ t1 ∧ t ≠ t2 := fun t ht => by have := List.all_eq_true.1 hout t ht; simpa using this
  obtain ⟨a, cap, hv, hm⟩ : ∃ a cap, tm.getD x undef = .slice a m cap ∧ (a.isNone = true → m = 0) := by
    obtain ⟨S, O, gv, hI⟩ := id hg
    cases hq : lk E x <;> rw [hq] at hsl <;> simp only [D.slv] at hsl <;> cases hsl
    · have hr := hI.rep (t := x) (by rw [hq]; rfl)
      rw [hq] at hr
      generalize tm.getD x undef = v at hr
      cases hr with
      | sl0 a cap hc => exact ⟨a, cap, rfl, fun _ => rfl⟩
      | slN => exact ⟨none, 0, rfl, fun _ => rfl⟩
      | sl m ds b off cap vs hl h1 hn hc hr h => exact ⟨_, cap, rfl, fun h => by cases h⟩
    · have hs := hI.slot x
      rw [hq] at hs
      simp only [SR, OwnR] at hs
      rw [tmOf_lt hx] at hs
      rcases hs with ⟨_, h2, h3, _⟩ | ⟨b, cap, arr, _, h2, _⟩
      · subst h3; exact ⟨none, 0, h2, fun _ => rfl⟩
      · exact ⟨_, cap, h2, fun h => by cases h⟩
  have hg1 := hg.keep (live := out)
  obtain ⟨S, O, gv, hI⟩ := id hg1
  have hun1 : lk (keepE out E) t1 = .un := by rw [lk_keepE, if_neg (fun h => (hno t1 h).1 rfl)]
  have hI1 := hI.touch (t := t1) (.slice a m cap) ht1.2 hun1 (fun t s h => by rw [keepE_noAlias out E t] at h; cases h)
  have hI2 := hI1.setPure (d := .bool a.isNone) (v := .bool a.isNone) (dst := t2) hI1.extRefl (fun _ _ z => z) (fun _ _ z => .inl z) (.bool _) ht2 (fun t s h => by rw [keepE_noAlias out E t] at h; cases h)
  have e1 : (execOp (rho tm) o1).run P w = .ok (.value (.slice a m cap)) w := by
    rw [exec_move (P := P) (w := w) (o := o1) (.inl h1) (rho tm)]
    simp only [rho, hv]
  have hgt : (tm.setIfInBounds t1 (.slice a m cap)).getD t1 undef = .slice a m cap := by
    have : t1 < tm.size := by rw [hI.size]; exact ht1.1
    simp [this]
  have e2 : (execOp (rho (tm.setIfInBounds t1 (.slice a m cap))) o2).run P w = .ok (.value (.bool a.isNone)) w := by
    have e3 : rho (tm.setIfInBounds t1 (.slice a m cap)) (.tmp t1) = .slice a m cap := hgt
    have e4 : rho (tm.setIfInBounds t1 (.slice a m cap)) (.const (.slice none 0 0)) = .slice none 0 0 := rfl
    simp [execOp, h2, e3, e4, eqGuard, binOp, run_equal_slice hu]
  refine wpIn_region_list ?_
  rw [hops]
  refine wpListIn_plain h1g fun K hK => ⟨fun _ _ => trivial, ?_⟩
  rw [Oper.semAt_plain _ _ _ (by rw [h1]; intro c h; cases h)]
  show Oper.uponIn _ _ _ _ _ _ _ ((execOp (rho tm) o1).run P w)
  rw [e1, Oper.uponIn_value, h1d]
  apply hK
  refine wpListIn_plain h2g fun K2 hK2 => ⟨fun _ _ => trivial, ?_⟩
  rw [Oper.semAt_plain _ _ _ (by rw [h2]; intro c h; cases h)]
  show Oper.uponIn _ _ _ _ _ _ _ ((execOp (rho (tm.setIfInBounds t1 (.slice a m cap))) o2).run P w)
  rw [e2, Oper.uponIn_value, h2d]
  apply hK2
  refine hQ _ _ w n df (hM a.isNone hm) ?_ had ⟨_, _, _, by rw [lk_sets]; exact hI2⟩
  intro t
  rw [lk_sets]
  show aliasOf (upd (lk (keepE out E)) t2 (.bool a.isNone) t) = none
  unfold upd
  split
  · rfl
  · exact keepE_noAlias out E t

theorem nilT_f {x t2 : Nat} {out : List Nat} {M : Env → Prop} {E : Env} : (nilT x t2 out).f M E = ∃ m cs, (lk E x).slv = some (m, cs) ∧ ∀ b : Bool, (b = true → m = 0) → M (sets (keepE out E) [(t2, .bool b)]) := rfl
end Go.Pi

/-
  A FUNCTION THAT WRITES IN A SLICE OF THE CALLER's OWN, its first argument. Own work.
-/
namespace Go.Pi
open Go Go.RowKit

variable {P : Program} {L : World → Prop} {n : Nz} {S0 S : Nat → Nat → Prop} {w0 w : World} {O : Nat → Option Nat} {g : G} {tm : Array Value}

/-- the world below a block -/
def trunc (w : World) (b : Nat) : World := { w with heap := w.heap.extract 0 b }
theorem trunc_size {b : Nat} (h : b ≤ w.heap.size) : (trunc w b).heap.size = b := by
  show (w.heap.extract 0 b).size = b
  rw [Array.size_extract]; omega
theorem trunc_get {b k : Nat} (h : k < b) : (trunc w b).heap[k]? = w.heap[k]? := by
  show (w.heap.extract 0 b)[k]? = _
  rw [Array.getElem?_extract]
  split
  · rw [Nat.zero_add]
  · rw [Array.getElem?_eq_none (by omega)]
theorem below_trunc {b : Nat} (h : b ≤ w.heap.size) : Below b (trunc w b) w := ⟨rfl, rfl, rfl, by rw [trunc_size h]; exact h, fun k hk => (trunc_get hk).symm⟩
theorem trunc_below {B b : Nat} {a : World} (h : Below B a w) (hB : B ≤ b) (hb : b ≤ w.heap.size) (ha : a.heap.size ≤ b) : Below B a (trunc w b) :=
  ⟨h.os, h.tape, h.output, by rw [trunc_size hb]; exact ha, fun k hk => (trunc_get (by omega)).trans (h.block k hk)⟩

theorem init_inv_own {ds : List D} {vs : List Value} {m b k : Nat} {e : TypeId} {cs : List D} {v1 : Value} (hS : ∀ c j, S c j → c < w.heap.size) (hb : b < w.heap.size)
    (hown : OwnR P S w (some b) (.own true e k cs) v1) (hr : Reps S w ds vs) (hm : vs.length + 1 ≤ m) (hmg : m ≤ GB) :
    Inv P (Nz.all m ((v1 :: vs).toArray ++ Array.replicate (m - (v1 :: vs).toArray.size) undef) w) (fun c j => S c j ∧ c < b) (trunc w b) S (fun t => if t = 0 then some b else none) (lk (initE 0 (.own true e k cs :: ds)))
      ((v1 :: vs).toArray ++ Array.replicate (m - (v1 :: vs).toArray.size) undef) w where
  fix := fun _ _ => rfl
  keep := fun _ _ h _ => h
  nb := hmg
  gh := fun t ht => by
    rw [lk_initE]
    simp only [Nat.zero_le, if_true, Nat.sub_zero]
    rw [List.getElem?_eq_none (by have := hr.1; simp only [List.length_cons]; omega)]
    rfl
  size := by simp [Nz.all]; omega
  below := by rw [trunc_size (by omega)]; exact below_trunc (by omega)
  sub := fun _ _ x => x.1
  sup := fun c j x => by
    rw [trunc_size (by omega)]
    rcases Nat.lt_or_ge c b with h | h
    · exact .inl ⟨x, h⟩
    · exact .inr h
  ex := hS
  inj := fun t t' c h h' => by
    split at h <;> split at h' <;> first | omega | (cases h; done) | (cases h'; done)
  base := fun t c h => by
    split at h <;> cases h
    rw [trunc_size (by omega)]
    exact ⟨Nat.le_refl _, hb⟩
  slot := fun t => by
    rw [lk_initE]
    simp only [Nat.zero_le, if_true, Nat.sub_zero]
    have tg : ∀ i v, (v1 :: vs)[i]? = some v → tmOf (fun _ => undef) ((v1 :: vs).toArray ++ Array.replicate (m - (v1 :: vs).toArray.size) undef) i = v := fun i v hv => by
      have hlt : i < (v1 :: vs).length := (List.getElem?_eq_some_iff.1 hv).1
      simp only [List.length_cons] at hlt
      rw [tmOf_lt (by omega)]
      simp only [Array.getD_eq_getD_getElem?]
      rw [Array.getElem?_append_left (by simpa using hlt)]
      simp [hv]
    cases t with
    | zero =>
      simp only [List.getElem?_cons_zero, Option.getD_some, SR, if_true]
      show OwnR P S w (some b) _ (tmOf (fun _ => undef) _ 0)
      rw [tg 0 v1 rfl]; exact hown
    | succ t =>
      simp only [List.getElem?_cons_succ]
      cases hd : ds[t]? with
      | none => simp [SR]
      | some d =>
        obtain ⟨v, hv, hrep⟩ := hr.get hd
        simp only [Option.getD_some]
        rw [SR.pure_iff hrep.pure]
        refine ⟨by simp, ?_⟩
        have e := tg (t + 1) v (by simpa using hv)
        simp only [Nz.all]
        rw [e]; exact hrep

/-- THE CONTRACT of a function that may write in its first argument's memory -/
def ConW (P : Program) (L : World → Prop) (f : FuncId) (e k : Nat) (cs ds : List D) (m : Nat) (rs : List D) : Prop :=
  hasBody P f = true ∧ ∀ (w0 w : World) (b : Nat) (S : Nat → Nat → Prop) (v1 : Value) (vs : List Value), L w0 → Below w0.heap.size w0 w → w0.heap.size ≤ b → b < w.heap.size → (∀ c j, S c j → c < w.heap.size) →
    OwnR P S w (some b) (.own true e k cs) v1 → Reps S w ds vs →
    Calls P f (v1 :: vs).toArray w fun en w' => ∃ v, en = .returned v ∧ Below b (trunc w b) w' ∧ Rep (fun c j => (S c j ∧ c < b) ∨ (b ≤ c ∧ c < w'.heap.size)) w' (.sl m rs) v

/-- an owned slice, read as a plain one -/
def asSl (m : Nat) (cs : List D) (r : D) : Prop := r = .sl m cs ∨ ∃ wr e, r = .own wr e m cs

theorem res_sl {w' : World} {m : Nat} {cs : List D} {r : D} {v : Value} (h : Res P S w w' r v) (hr : asSl m cs r) : Rep (fun c j => S c j ∨ (w.heap.size ≤ c ∧ c < w'.heap.size)) w' (.sl m cs) v := by
  rcases hr with rfl | ⟨wr, e, rfl⟩
  · exact h
  · obtain ⟨ob, h1, h2⟩ := h
    simp only [OwnR] at h2
    rcases h2 with ⟨_, rfl, rfl, rfl⟩ | ⟨b, cap, arr, rfl, rfl, h3, h4, h5, h6, h7, h8, h9, h10, h11⟩
    · exact .sl0 none 0 (Nat.zero_le _)
    · have h8' := h8.mono (S' := fun c j => S c j ∨ (w.heap.size ≤ c ∧ c < w'.heap.size)) (w' := w') (fun b o hh => hh.elim .inl fun hh => .inr ⟨hh.1, hh.2.1⟩) (fun _ _ _ => rfl)
      refine .sl m cs b 0 cap _ h8'.1 h9 h4 h5 ?_ h8'.2
      rw [← h7]
      exact Row.ofBlock h3 (fun j hj => .inr (h1 b rfl))

theorem conW_of (hL : ∀ w w', L w → Below w.heap.size w w' → L w') {f : FuncId} {fn : Func} {c : Code} {pc : PC} {rs : List RV} {ds cs : List D} {e k m : Nat} {ms : List D} (hf : P.funcs[f]? = some fn) (hb : fn.body = some c)
    (hnm : (fn.name != "runtime.NumGoroutine") = true) (hc : chkC P (fun d => decide (d < fn.ntmps)) c pc = true) (hrs : chkRV P fn.results.toList rs = true) (hlen : ds.length + 1 ≤ fn.ntmps) (hp : ds.all (fun d => (aliasOf d).isNone) = true)
    (hbk : ∀ q ∈ pc.backs, IsBack P q.1 q.2.1 q.2.2) (hcu : ∀ q ∈ cusL c pc, CusOk P L q.1 q.2.1 q.2.2) (hgb : fn.ntmps ≤ GB)
    (h : wpC (Con P L) pc (fun ex E => (match ex with | .exit _ => False | _ => True) ∧ ∃ r, resD E rs = some r ∧ asSl m ms r) (initE 0 (.own true e k cs :: ds))) : ConW P L f e k cs ds m ms := by
  refine ⟨by simp [hasBody, hf, hb, hnm], fun w0 w b S v1 vs hL0 hbel hb0 hb1 hS hown hreps => ?_⟩
  have hsz : (trunc w b).heap.size = b := trunc_size (by omega)
  have hLt : L (trunc w b) := hL w0 _ hL0 (trunc_below hbel hb0 (by omega) hb0)
  have hI := init_inv_own (P := P) (m := fn.ntmps) hS hb1 hown hreps (by rw [← hreps.1]; exact hlen) hgb
  refine CallsIn.calls (F := WF none) (n := 0) (callsIn_of_wp_marks hf hb trivial ?_) (fun k d e => by cases e)
  refine wpC_sound (rd := none) (nn := 0) hL (w0 := trunc w b) (S0 := fun c j => S c j ∧ c < b) (n0 := Nz.all fn.ntmps ((v1 :: vs).toArray ++ Array.replicate (fn.ntmps - (v1 :: vs).toArray.size) undef) w) (df0 := []) hLt c pc (.inr ⟨rfl, hbk⟩) hcu _ _ (initE 0 (.own true e k cs :: ds)) _ w
    (Nz.all fn.ntmps ((v1 :: vs).toArray ++ Array.replicate (fn.ntmps - (v1 :: vs).toArray.size) undef) w) _
    ⟨fun d h => ⟨of_decide_eq_true h, h⟩, fun _ => ⟨[], List.nodup_nil, rfl, fun D h => by cases h⟩, fun h => by cases h⟩ hc ?_ ⟨S, _, _, hI⟩ h ?_
  · intro t
    rw [lk_initE]
    simp only [Nat.zero_le, if_true, Nat.sub_zero]
    cases t with
    | zero => rfl
    | succ t =>
      simp only [List.getElem?_cons_succ]
      cases hd : ds[t]? with
      | none => rfl
      | some d =>
        have := List.all_eq_true.1 hp d (List.mem_of_getElem? hd)
        simpa using this
  · intro ex E' tm' w' n' df' hq hna had hg
    obtain ⟨Ds, hnd, rfl, hDs⟩ := had.2.1 rfl
    have hlv : LeavesInM (WF none) 0 P fn tm' (fun en w' => ∃ v, en = .returned v ∧ Below b (trunc w b) w' ∧ Rep (fun c j => (S c j ∧ c < b) ∨ (b ≤ c ∧ c < w'.heap.size)) w' (.sl m ms) v) (Ds.map mark) .returning w' := by
      obtain ⟨S1, O1, gv1, hI1⟩ := id hg
      refine leaves_marks Ds n' w' hnd (fun D hD => ⟨(hDs D hD).1, hI1.keep D _ (hDs D hD).2 rfl⟩) hg (fun n2 w2 hg2 => ?_)
      obtain ⟨r, hr1, hr2⟩ := hq.2
      obtain ⟨v, h1, h2, h3⟩ := hg2.res hna hrs hr1
      have h4 := res_sl h3 hr2
      rw [hsz] at h2 h4
      exact ⟨v, h1, v, rfl, h2, h4⟩
    cases ex with
    | nrm => exact hlv
    | exit id => exact hq.1.elim
    | ret => exact hlv

/-- what must hold at the end -/
def retW (rs : List RV) (m : Nat) (ms : List D) : Ex → Env → Prop := fun ex E => (match ex with | .exit _ => False | _ => True) ∧ ∃ r, resD E rs = some r ∧ asSl m ms r
theorem retW_ret {rs : List RV} {m : Nat} {ms : List D} {E : Env} : retW rs m ms .ret E = ∃ r, resD E rs = some r ∧ asSl m ms r := by simp [retW]
theorem con_chkW (hL : ∀ w w', L w → Below w.heap.size w w' → L w') {f : FuncId} {fn : Func} {np : Nat} {pc : PC} {rs : List RV} (hf : P.funcs[f]? = some fn)
    (hc : chkFnR P fn np pc rs = true) (hbk : ∀ q ∈ pc.backs, IsBack P q.1 q.2.1 q.2.2) (hcu : ∀ c, fn.body = some c → ∀ q ∈ cusL c pc, CusOk P L q.1 q.2.1 q.2.2) {ds cs ms : List D} {e k m : Nat} (hlen : ds.length + 1 = np) (hp : ds.all (fun d => (aliasOf d).isNone) = true)
    (h : wpC (Con P L) pc (retW rs m ms) (initE 0 (.own true e k cs :: ds))) : ConW P L f e k cs ds m ms := by
  unfold chkFnR at hc
  simp only [Bool.and_eq_true, decide_eq_true_eq] at hc
  obtain ⟨⟨⟨h1, h2⟩, h3⟩, h4⟩ := hc
  split at h4
  · rename_i c hb
    exact conW_of hL hf hb h1 h4 h3 (by omega) hp hbk (hcu c hb) h2.2 h
  · cases h4

/-! ### clear(s[i:]) -/
def clearT (x y sz : Nat) (z : List D) (e : TypeId) (out : List Nat) : PT where
  f := fun M E => ∃ (k i : Nat) (cs : List D), lk E x = .own true e k cs ∧ lk E y = .int .i64 (i : Nat) ∧ i ≤ k ∧ cs.length = k * sz ∧ M (sets (keepE out E) [(x, .own true e k (cs.take (i * sz) ++ (List.replicate (k - i) z).flatten))])
  mono := fun hM ⟨k, i, cs, h1, h2, h3, h4, h5⟩ => ⟨k, i, cs, h1, h2, h3, h4, hM _ h5⟩

theorem upd_same' {g : G} {x : Nat} {d : D} (h : g x = d) : upd g x d = g := by rw [← h]; exact upd_same g x

theorem getD_set_eq {tm : Array Value} {t : Nat} (v : Value) (h : t < tm.size) : (tm.setIfInBounds t v).getD t undef = v := by simp [h]
theorem getD_set_ne {tm : Array Value} {t u : Nat} (v : Value) (h : u ≠ t) : (tm.setIfInBounds t v).getD u undef = tm.getD u undef := by
  simp only [Array.getD_eq_getD_getElem?]
  rw [Array.getElem?_setIfInBounds, if_neg (fun e => h e.symm)]

theorem clearT_ok {rid x y t1 t2 t3 sz : Nat} {z : List D} {out : List Nat} {ops : Array Oper} {o1 o2 o3 o4 : Oper} {ty e : TypeId} (hops : ops.toList = [o1, o2, o3, o4])
    (h1 : o1.op = .move (.tmp x)) (h1d : o1.dst = some t1) (h1g : o1.guard = none) (h2 : o2.op = .move (.tmp y)) (h2d : o2.dst = some t2) (h2g : o2.guard = none)
    (h3 : o3.op = .slice ty (.tmp t1) (some (.tmp t2)) none none) (h3d : o3.dst = some t3) (h3g : o3.guard = none)
    (h4 : o4.op = .call { callee := .builtin .clear, args := #[.tmp t3], argTypes := #[ty] }) (h4d : o4.dst = none) (h4g : o4.guard = none)
    (hu : P.underlying ty = some (.slice e)) (hinfo : (P.info? e).isSome = true) (hz : zeroOk P e z = true) (hsz : z.length = sz) (hpos : 0 < sz) (hx : x < GB) (hy : y < GB)
    (hout : out.all (fun t => t != t1 && t != t2 && t != t3) = true) (hxo : x ∈ out) (hyo : y ∈ out) (h12 : t1 ≠ t2) (h13 : t1 ≠ t3) (h23 : t2 ≠ t3) :
    CusOk P L (.region rid ops false) [t1, t2, t3] (clearT x y sz z e out) := by
  intro nn rd okf S0 w0 n0 df0 M Qc E tm w n df hws hL0 had hna hg hT hQ
  obtain ⟨k, i, cs, hx1, hy1, hik, hcs, hM⟩ := hT
  have ht1 := had.1 t1 (hws t1 (by simp))
  have ht2 := had.1 t2 (hws t2 (by simp))
  have ht3 := had.1 t3 (hws t3 (by simp))
  have hno : ∀ t, t ∈ out → t ≠ t1 ∧ t ≠ t2 ∧ t ≠ t3 := fun t ht => by have := List.all_eq_true.1 hout t ht; simpa [and_assoc] using this
  have hg1 := hg.keep (live := out)
  obtain ⟨S, O, gv, hI⟩ := id hg1
  have hgx : lk (keepE out E) x = .own true e k cs := by rw [lk_keepE, if_pos hxo, hx1]; rfl
  have hgy : lk (keepE out E) y = .int .i64 (i : Nat) := by rw [lk_keepE, if_pos hyo, hy1]; rfl
  have un : ∀ t, (∀ s ∈ out, s ≠ t) → lk (keepE out E) t = .un := fun t h => by rw [lk_keepE, if_neg (fun h' => h t h' rfl)]
  have hal : ∀ t' t s, aliasOf (lk (keepE out E) t) = some s → s ≠ t' := fun t' t s h => by rw [keepE_noAlias out E t] at h; cases h
  have hvy : tm.getD y undef = .int .i64 (i : Nat) := by
    have hr := hI.rep (t := y) (by rw [hgy]; rfl)
    rw [hgy] at hr
    generalize tm.getD y undef = v at hr
    cases hr; rfl
  have hs := hI.slot x
  rw [hgx] at hs
  simp only [SR] at hs
  rw [tmOf_lt hx] at hs
  -- the slice, cut
  obtain ⟨v0, v3, w', hv0, e3, e4, hfin⟩ : ∃ v0 v3 w', tm.getD x undef = v0 ∧
      (∀ ρ : Operand → Value, ρ (.tmp t1) = v0 → ρ (.tmp t2) = .int .i64 (i : Nat) → (execOp ρ o3).run P w = .ok (.value v3) w) ∧
      (∀ ρ : Operand → Value, ρ (.tmp t3) = v3 → ∃ q, (execOp ρ o4).run P w = .ok (.value q) w') ∧
      (∀ tm' : Array Value, Inv P { n with gv := gv } S0 w0 S O (lk (keepE out E)) tm' w → tm'.getD x undef = v0 → ∃ S' O', Inv P { n with gv := gv } S0 w0 S' O' (upd (lk (keepE out E)) x (.own true e k (cs.take (i * sz) ++ (List.replicate (k - i) z).flatten))) tm' w') := by
    simp only [OwnR] at hs
    rcases hs with ⟨ho, hv, rfl, rfl⟩ | ⟨b, cap, arr, ho, hv, hb, hkc, hcm, hasz, hdl, hreps, hone, hS1, hS2⟩
    · have hi0 : i = 0 := by omega
      subst hi0
      refine ⟨_, .slice none 0 0, w, hv, fun ρ r1 r2 => ?_, fun ρ r3 => ?_, fun tm' hI' _ => ⟨S, O, ?_⟩⟩
      · have key := run_bounds (P := P) (w := w) (isS := true) (len := 0) (cap := 0) (lo := some (.int .i64 0)) (hi := none) (l := 0) (h := 0) rfl ⟨.i64, 0, rfl, by omega, by omega, rfl⟩
        have r2' : ρ (.tmp t2) = .int .i64 0 := r2
        clear r2
        simp [execOp, h3, r1, r2', Instr.sliceAt, run_underlying hu, Instr.slice, key, run_sizeOf hinfo]
      · exact ⟨.tuple #[], by simp [execOp, h4, r3, invoke, resolve, builtin, Builtin.clear_, run_underlying hu]⟩
      · rw [upd_same' (by rw [hgx]; simp)]; exact hI'
    · obtain ⟨iz, vz, hi, hvz, hzc, h33, h44, h55⟩ := zeroOk_spec hz
      obtain ⟨h6, h7⟩ := constsOk_reps (S := S) (w := w) hzc
      have hce : P.cellsOf e = sz := by rw [h44, hsz]
      have hle : i * sz ≤ k * sz := Nat.mul_le_mul_right _ hik
      have hle2 : k * sz ≤ cap * sz := Nat.mul_le_mul_right _ hkc
      have hml : (k - i) * sz = k * sz - i * sz := Nat.sub_mul ..
      have hzs : (Builtin.zeroCells vz.cells (k - i)).size = (k - i) * sz := by rw [size_zeroCells, h55, hsz]
      have hfit : i * sz + 0 + (Builtin.zeroCells vz.cells (k - i)).toList.length ≤ arr.size := by
        rw [Array.length_toList, hzs, hasz, hce]; omega
      have hzr := made_reps (S := S) (w := w) h6 (by omega) (k - i) (k - i) (Nat.le_refl _)
      have hzz : madeCells vz.cells ((k - i) * z.length) = Builtin.zeroCells vz.cells (k - i) := by
        unfold madeCells Builtin.zeroCells
        rw [h55]
      rw [hzz, List.take_of_length_le (by rw [Array.length_toList, hzs, hsz]; exact Nat.le_refl _)] at hzr
      have hone2 : ∀ u ∈ (Builtin.zeroCells vz.cells (k - i)).toList, u.oneCell' = true := fun u hu => by
        obtain ⟨q, hq⟩ := List.getElem?_of_mem hu
        obtain ⟨d, hd⟩ : ∃ d, (List.replicate (k - i) z).flatten[q]? = some d := by
          have hlt : q < (List.replicate (k - i) z).flatten.length := by rw [hzr.1]; exact (List.getElem?_eq_some_iff.1 hq).1
          exact ⟨_, List.getElem?_eq_getElem hlt⟩
        exact (hzr.2 q d u hd hq).oneCell (ones_flatten h7 _ d (List.mem_of_getElem? hd))
      have hex := run_storeCells_at P b (i * sz) e (Builtin.zeroCells vz.cells (k - i)).toList 0 arr w hb hfit hone2
      simp only [Nat.add_zero] at hex
      generalize hnew : (arr.toList.take (i * sz) ++ (Builtin.zeroCells vz.cells (k - i)).toList ++ arr.toList.drop (i * sz + (Builtin.zeroCells vz.cells (k - i)).toList.length)).toArray = arr' at hex
      have hnl : arr'.toList = arr.toList.take (i * sz) ++ (Builtin.zeroCells vz.cells (k - i)).toList ++ arr.toList.drop (i * sz + (Builtin.zeroCells vz.cells (k - i)).toList.length) := by rw [← hnew]
      have hsz' : arr'.size = arr.size := by
        have := congrArg List.length hnl
        simp at this
        simp at hfit
        omega
      have hnoS : ∀ j, ¬ S b j := fun j hj => by cases (hS1 j hj).1
      have hcells : ∀ b' o', S b' o' → (w.setRow b arr').cell? ⟨b', o', none⟩ = w.cell? ⟨b', o', none⟩ := fun b' o' hs => cell_setRow_other w b arr' _ (fun z => hnoS o' (by simp at z; subst z; exact hs))
      have htk : arr'.toList.take (k * sz) = (arr.toList.take (k * sz)).take (i * sz) ++ (Builtin.zeroCells vz.cells (k - i)).toList := by
        have e1 : (arr.toList.take (i * sz)).length = i * sz := by
          rw [List.length_take, Array.length_toList, hasz, hce]; omega
        have q1 : (arr.toList.take (i * sz)).take (k * sz) = arr.toList.take (i * sz) := List.take_of_length_le (by rw [e1]; exact hle)
        have q2 : ∀ D : List Value, ((Builtin.zeroCells vz.cells (k - i)).toList ++ D).take (k * sz - i * sz) = (Builtin.zeroCells vz.cells (k - i)).toList := fun D =>
          List.take_left' (by rw [Array.length_toList, hzs, hml])
        rw [hnl, List.take_take, Nat.min_eq_left hle, List.append_assoc, List.take_append, q1, e1, q2]
      have hnr : Reps S w (cs.take (i * sz) ++ (List.replicate (k - i) z).flatten) (arr'.toList.take (k * sz)) := by
        rw [htk]
        rw [hce] at hreps
        exact (hreps.take (i * sz)).app hzr
      have hlen2 : (cs.take (i * sz) ++ (List.replicate (k - i) z).flatten).length = k * sz := by
        rw [List.length_append, length_flatten_replicate, List.length_take, hsz]
        have : cs.length = k * sz := hcs
        omega
      have hadd : (⟨b, 0, none⟩ : Addr).add (i * sz) = ⟨b, i * sz, none⟩ := by unfold Addr.add; split <;> simp_all
      refine ⟨_, .slice (if cap = i then some ⟨b, 0, none⟩ else some ⟨b, i * sz, none⟩) (k - i) (cap - i), if k - i = 0 then w else w.setRow b arr', hv, fun ρ r1 r2 => ?_, fun ρ r3 => ?_, fun tm' hI' hv' => ?_⟩
      · have key := run_bounds (P := P) (w := w) (isS := true) (len := k) (cap := cap) (lo := some (.int .i64 (i : Nat))) (hi := none) (l := i) (h := k) rfl ⟨.i64, (i : Nat), rfl, by omega, by omega, by omega⟩
        simp [execOp, h3, r1, r2, Instr.sliceAt, run_underlying hu, Instr.slice, key, run_sizeOf hinfo, hce]
        rw [hadd]
      · by_cases h0 : k - i = 0
        · refine ⟨.tuple #[], ?_⟩
          rw [h0] at r3
          rw [if_pos h0]
          split at r3 <;> simp [execOp, h4, r3, invoke, resolve, builtin, Builtin.clear_, run_underlying hu]
        · refine ⟨.tuple #[], ?_⟩
          rw [if_neg (show ¬cap = i by omega)] at r3
          rw [if_neg h0]
          obtain ⟨q, hq⟩ : ∃ q, k - i = q + 1 := ⟨k - i - 1, by omega⟩
          rw [hq] at r3 hex
          simp [execOp, h4, r3, invoke, resolve, builtin, Builtin.clear_, run_underlying hu, zeroValue, typeInfo, hi, hvz, hex]
      · by_cases h0 : k - i = 0
        · rw [if_pos h0]
          have hik : i = k := by omega
          subst hik
          refine ⟨S, O, ?_⟩
          have e0 : cs.take (i * sz) ++ (List.replicate (i - i) z).flatten = cs := by
            rw [Nat.sub_self]
            simp only [List.replicate_zero, List.flatten_nil, List.append_nil]
            exact List.take_of_length_le (by omega)
          rw [e0, upd_same' hgx]; exact hI'
        · rw [if_neg h0]
          refine ⟨S, O, ?_⟩
          refine hI'.ownChange (s := x) (b := b) ho ⟨_, _, _, hb⟩ rfl (fun _ _ z => z) (fun _ _ z => .inl z) (fun q hq => setRow_other w b q arr' hq) (fun o' hs => absurd hs (hnoS o')) (setRow_size w b arr') rfl rfl rfl ?_
          rw [tmOf_lt hx, hv']
          refine .inr ⟨b, cap, arr', rfl, rfl, setRow_heap w b arr arr' e (0, 0) hb, hkc, hcm, by rw [hsz']; exact hasz, by rw [hlen2, hce], ?_, ?_, fun j hj => absurd hj (hnoS j), fun hf => by cases hf⟩
          · rw [hce]; exact hnr.mono (fun _ _ z => z) hcells
          · intro d hd
            rcases List.mem_append.1 hd with hd | hd
            · exact hone d (List.mem_of_mem_take hd)
            · exact ones_flatten h7 _ d hd
  have hto1 : ∀ s ∈ out, s ≠ t1 := fun s hs => (hno s hs).1
  have hto2 : ∀ s ∈ out, s ≠ t2 := fun s hs => (hno s hs).2.1
  have hto3 : ∀ s ∈ out, s ≠ t3 := fun s hs => (hno s hs).2.2
  have hI1 := hI.touch (t := t1) v0 ht1.2 (un t1 hto1) (hal t1)
  have hI2 := hI1.touch (t := t2) (.int .i64 (i : Nat)) ht2.2 (un t2 hto2) (hal t2)
  have hI3 := hI2.touch (t := t3) v3 ht3.2 (un t3 hto3) (hal t3)
  have sz0 : tm.size = n.n := hI.size
  have g1 : (tm.setIfInBounds t1 v0).getD t1 undef = v0 := getD_set_eq _ (by rw [sz0]; exact ht1.1)
  have g1y : (tm.setIfInBounds t1 v0).getD y undef = .int .i64 (i : Nat) := by rw [← hvy]; exact getD_set_ne _ (hto1 y hyo)
  have g2 : ((tm.setIfInBounds t1 v0).setIfInBounds t2 (.int .i64 (i : Nat))).getD t2 undef = .int .i64 (i : Nat) := getD_set_eq _ (by rw [Array.size_setIfInBounds, sz0]; exact ht2.1)
  have g21 : ((tm.setIfInBounds t1 v0).setIfInBounds t2 (.int .i64 (i : Nat))).getD t1 undef = v0 := (getD_set_ne _ h12).trans g1
  have g3 : (((tm.setIfInBounds t1 v0).setIfInBounds t2 (.int .i64 (i : Nat))).setIfInBounds t3 v3).getD t3 undef = v3 := getD_set_eq _ (by rw [Array.size_setIfInBounds, Array.size_setIfInBounds, sz0]; exact ht3.1)
  have g3x : (((tm.setIfInBounds t1 v0).setIfInBounds t2 (.int .i64 (i : Nat))).setIfInBounds t3 v3).getD x undef = v0 :=
    ((getD_set_ne _ (hto3 x hxo)).trans ((getD_set_ne _ (hto2 x hxo)).trans (getD_set_ne _ (hto1 x hxo)))).trans hv0
  obtain ⟨S', O', hI4⟩ := hfin _ hI3 g3x
  refine wpIn_region_list ?_
  rw [hops]
  refine wpListIn_plain h1g fun K hK => ⟨fun _ _ => trivial, ?_⟩
  rw [Oper.semAt_plain _ _ _ (by rw [h1]; intro c h; cases h)]
  show Oper.uponIn _ _ _ _ _ _ _ ((execOp (rho tm) o1).run P w)
  rw [exec_move (P := P) (w := w) (o := o1) (.inl h1) (rho tm), Oper.uponIn_value, h1d, show rho tm (.tmp x) = v0 from hv0]
  apply hK
  refine wpListIn_plain h2g fun K2 hK2 => ⟨fun _ _ => trivial, ?_⟩
  rw [Oper.semAt_plain _ _ _ (by rw [h2]; intro c h; cases h)]
  show Oper.uponIn _ _ _ _ _ _ _ ((execOp (rho (tm.setIfInBounds t1 v0)) o2).run P w)
  rw [exec_move (P := P) (w := w) (o := o2) (.inl h2) (rho _), Oper.uponIn_value, h2d, show rho (tm.setIfInBounds t1 v0) (.tmp y) = _ from g1y]
  apply hK2
  refine wpListIn_plain h3g fun K3 hK3 => ⟨fun _ _ => trivial, ?_⟩
  rw [Oper.semAt_plain _ _ _ (by rw [h3]; intro c h; cases h)]
  show Oper.uponIn _ _ _ _ _ _ _ ((execOp (rho ((tm.setIfInBounds t1 v0).setIfInBounds t2 (.int .i64 (i : Nat)))) o3).run P w)
  rw [e3 _ g21 g2, Oper.uponIn_value, h3d]
  apply hK3
  refine wpListIn_plain h4g fun K4 hK4 => ⟨fun _ _ => trivial, ?_⟩
  rw [Oper.semAt_plain _ _ _ (by rw [h4]; intro c h; cases h)]
  obtain ⟨q, hq4⟩ := e4 (rho (((tm.setIfInBounds t1 v0).setIfInBounds t2 (.int .i64 (i : Nat))).setIfInBounds t3 v3)) g3
  show Oper.uponIn _ _ _ _ _ _ _ ((execOp (rho (((tm.setIfInBounds t1 v0).setIfInBounds t2 (.int .i64 (i : Nat))).setIfInBounds t3 v3)) o4).run P w)
  rw [hq4, Oper.uponIn_value, h4d]
  apply hK4
  refine hQ _ _ w' n df hM ?_ had ⟨_, _, _, by rw [lk_sets]; exact hI4⟩
  intro t
  rw [lk_sets]
  show aliasOf (upd (lk (keepE out E)) x _ t) = none
  unfold upd
  split
  · rfl
  · exact keepE_noAlias out E t

theorem clearT_f {x y sz : Nat} {z : List D} {e : TypeId} {out : List Nat} {M : Env → Prop} {E : Env} : (clearT x y sz z e out).f M E = ∃ (k i : Nat) (cs : List D), lk E x = .own true e k cs ∧ lk E y = .int .i64 (i : Nat) ∧ i ≤ k ∧ cs.length = k * sz ∧ M (sets (keepE out E) [(x, .own true e k (cs.take (i * sz) ++ (List.replicate (k - i) z).flatten))]) := rfl

/-! ### r := fd(fc(the slice in box p), closure fh over box q) -/
def dfT (P : Program) (L : World → Prop) (p q r : Nat) (fc fh fd : FuncId) (e : TypeId) (out : List Nat) : PT where
  f := fun M E => ∃ (m k : Nat) (cs caps ms : List D) (wp wq : Bool), lk E p = .box wp [.sl m cs] ∧ lk E q = .box wq caps ∧ 0 < m ∧ (∀ d ∈ cs, d.simple = true) ∧
    Con P L fc [.sl m cs] (.own true e m cs) ∧ ConW P L fd e m cs [.clo fh [.pt caps]] k ms ∧ M (sets (keepE out E) [(r, .sl k ms)])
  mono := fun hM ⟨m, k, cs, caps, ms, wp, wq, h1, h2, h3, h4, h5, h6, h7⟩ => ⟨m, k, cs, caps, ms, wp, wq, h1, h2, h3, h4, h5, h6, hM _ h7⟩

theorem OwnR.simple {S' : Nat → Nat → Prop} {b k : Nat} {e : TypeId} {cs : List D} {v : Value} (h : OwnR P S w (some b) (.own true e k cs) v) (hs : ∀ d ∈ cs, d.simple = true) (hS' : ∀ j, ¬ S' b j) : OwnR P S' w (some b) (.own true e k cs) v := by
  simp only [OwnR] at h ⊢
  rcases h with ⟨h, _⟩ | ⟨b', cap, arr, h1, h2, h3, h4, h5, h6, h7, h8, h9, h10, h11⟩
  · cases h
  · cases h1
    exact .inr ⟨b, cap, arr, rfl, h2, h3, h4, h5, h6, h7, ⟨h8.1, fun i d v hd hv => (h8.2 i d v hd hv).ofSimple (hs d (List.mem_of_getElem? hd))⟩, h9, fun j hj => absurd hj (hS' j), fun hf => by cases hf⟩

theorem chkXs_v1 {as : List Operand} {t : Nat} (h : chkXs as [.v t] = true) : as = [.tmp t] := by
  cases as with
  | nil => simp [chkXs] at h
  | cons y ys =>
    cases ys with
    | cons _ _ => simp [chkXs] at h
    | nil =>
      simp only [chkXs, Bool.and_true] at h
      cases y <;> simp [chkX] at h
      rw [h.1]
theorem chkXs_v2 {as : List Operand} {t u : Nat} (h : chkXs as [.v t, .v u] = true) : as = [.tmp t, .tmp u] := by
  cases as with
  | nil => simp [chkXs] at h
  | cons y ys =>
    simp only [chkXs, Bool.and_eq_true] at h
    have h2 := chkXs_v1 h.2
    subst h2
    have h1 := h.1
    cases y <;> simp [chkX] at h1
    rw [h1.1]

theorem dfT_ok (hL : ∀ w w', L w → Below w.heap.size w w' → L w') {rid p q r t1 t2 t3 t4 : Nat} {fc fh fd : FuncId} {out : List Nat} {ops : Array Oper} {o1 o2 o3 o4 o5 : Oper} {ty e : TypeId} (hops : ops.toList = [o1, o2, o3, o4, o5])
    (h1 : o1.op = .load ty (.tmp p)) (h1d : o1.dst = some t1) (h1g : o1.guard = none) (h2 : chkOp P o2 (.call fc [.v t1]) = true) (h2d : o2.dst = some t2) (h2g : o2.guard = none)
    (h3 : o3.op = .makeFunc (.func fh) #[] #[.tmp q]) (h3d : o3.dst = some t3) (h3g : o3.guard = none) (h4 : chkOp P o4 (.call fd [.v t2, .v t3]) = true) (h4d : o4.dst = some t4) (h4g : o4.guard = none)
    (h5 : o5.op = .assign (.tmp t4)) (h5d : o5.dst = some r) (h5g : o5.guard = none)
    (hag : isAggB P ty = some false) (hsz : P.cellsOf ty = 1) (hinfo : (P.info? ty).isSome = true) (hp : p < GB) (hq : q < GB) (hpq : p ≠ q)
    (hout : out.all (fun t => t != t1 && t != t2 && t != t3 && t != t4 && t != p && t != q) = true) (hqt : q ≠ t1 ∧ q ≠ t2) (h23 : t2 ≠ t3) :
    CusOk P L (.region rid ops false) [t1, t2, t3, t4, r] (dfT P L p q r fc fh fd e out) := by
  intro nn rd okf S0 w0 n0 df0 M Qc E tm w n df hws hL0 had hna hg hT hQ
  obtain ⟨m, k, cs, caps, ms, wp, wq, hp1, hq1, hm, hsim, hcc, hcw, hM⟩ := hT
  have ht1 := had.1 t1 (hws t1 (by simp))
  have ht2 := had.1 t2 (hws t2 (by simp))
  have ht3 := had.1 t3 (hws t3 (by simp))
  have ht4 := had.1 t4 (hws t4 (by simp))
  have htr := had.1 r (hws r (by simp))
  have hno : ∀ t, t ∈ out → t ≠ t1 ∧ t ≠ t2 ∧ t ≠ t3 ∧ t ≠ t4 ∧ t ≠ p ∧ t ≠ q := fun t ht => by have := List.all_eq_true.1 hout t ht; simpa [and_assoc] using this
  have hg1 := hg.keep (live := p :: q :: out)
  obtain ⟨S, O, gv, hI⟩ := id hg1
  have hgp : lk (keepE (p :: q :: out) E) p = .box wp [.sl m cs] := by rw [lk_keepE, if_pos (List.mem_cons_self ..), hp1]; rfl
  have hgq : lk (keepE (p :: q :: out) E) q = .box wq caps := by rw [lk_keepE, if_pos (List.mem_cons_of_mem _ (List.mem_cons_self ..)), hq1]; rfl
  obtain ⟨S', hI', hSS⟩ := hI.dullAll [q]
  -- the slice in the box
  have hsp := hI'.slot p
  have e1 : Pi.dullAll (lk (keepE (p :: q :: out) E)) [q] p = .box wp [.sl m cs] := by simp [Pi.dullAll, hpq, hgp]
  rw [e1] at hsp
  simp only [SR, OwnR] at hsp
  rw [tmOf_lt hp] at hsp
  obtain ⟨bp, arrp, ep, _, hvp, hbp, hrp, _, _, _⟩ := hsp
  obtain ⟨x, hax, hrx⟩ : ∃ x, arrp.toList = [x] ∧ Rep S' w (.sl m cs) x := by
    have hl := hrp.1
    match ha : arrp.toList, hl with
    | [x], _ => rw [ha] at hrp; exact ⟨x, rfl, hrp.2 0 _ _ rfl rfl⟩
  have hcellp : ∀ j v, ([x] : List Value)[j]? = some v → w.cell? ⟨bp, 0 + j, none⟩ = some v := fun j v hj => by
    have hj0 : j = 0 := by have := (List.getElem?_eq_some_iff.1 hj).1; simp at this; omega
    subst hj0
    have ea : arrp[0]? = some x := by rw [← Array.getElem?_toList, hax]; rfl
    simp at hj; subst hj
    simp [World.cell?, hbp, ea]
  -- the captured box
  have hsq := hI'.slot q
  have e2 : Pi.dullAll (lk (keepE (p :: q :: out) E)) [q] q = .box false caps := by simp [Pi.dullAll, hgq, D.dull]
  rw [e2] at hsq
  simp only [SR] at hsq
  rw [tmOf_lt hq] at hsq
  have hrq : Rep S' w (.pt caps) (tm.getD q undef) := OwnR.repPt hsq
  -- what is left of the frame
  have hI2 := hI'.drops [p, q] (fun t s h _ => by rw [alias_dullAll, keepE_noAlias] at h; cases h)
  have eg : (fun t => if t ∈ [p, q] then D.un else Pi.dullAll (lk (keepE (p :: q :: out) E)) [q] t) = lk (keepE out E) := by
    funext t
    rw [lk_keepE]
    by_cases ht : t ∈ [p, q]
    · rw [if_pos ht]
      have : t ∉ out := fun h => by
        have := hno t h
        simp only [List.mem_cons, List.not_mem_nil, or_false] at ht
        rcases ht with rfl | rfl
        · exact this.2.2.2.2.1 rfl
        · exact this.2.2.2.2.2 rfl
      rw [if_neg this]
    · rw [if_neg ht]
      simp only [List.mem_cons, List.not_mem_nil, or_false, not_or] at ht
      simp only [Pi.dullAll, List.mem_singleton, ht.2, if_false]
      rw [lk_keepE]
      simp only [List.mem_cons, ht.1, ht.2, false_or]
  rw [eg] at hI2
  have un : ∀ t, (∀ s ∈ out, s ≠ t) → lk (keepE out E) t = .un := fun t h => by rw [lk_keepE, if_neg (fun h' => h t h' rfl)]
  have hal : ∀ t' t s, aliasOf (lk (keepE out E) t) = some s → s ≠ t' := fun t' t s h => by rw [keepE_noAlias out E t] at h; cases h
  have sz0 : tm.size = n.n := hI.size
  have hLw : L w := hL _ _ hL0 hI.below
  -- the five operations
  refine wpIn_region_list ?_
  rw [hops]
  refine wpListIn_plain h1g fun K hK => ⟨fun _ _ => trivial, ?_⟩
  rw [Oper.semAt_plain _ _ _ (by rw [h1]; intro c h; cases h)]
  show Oper.uponIn _ _ _ _ _ _ _ ((execOp (rho tm) o1).run P w)
  have x1 : (execOp (rho tm) o1).run P w = .ok (.value x) w := by
    have hld := run_loadVar (P := P) (w := w) (vs := [x]) (b := bp) (off := 0) hag (by simp [hsz]) hinfo hcellp (fun _ => rfl)
    have e3 : rho tm (.tmp p) = .pointer (some ⟨bp, 0, none⟩) := hvp
    simp [execOp, h1, e3, Instr.loadAt, Instr.sureAddr, hld]
  rw [x1, Oper.uponIn_value, h1d]
  apply hK
  have g1 : (tm.setIfInBounds t1 x).getD t1 undef = x := getD_set_eq _ (by rw [sz0]; exact ht1.1)
  refine wpListIn_plain h2g fun K2 hK2 => ⟨fun _ _ => trivial, ?_⟩
  rw [semAt_chk h2 (by intro h; cases h)]
  show Oper.uponIn _ _ _ _ _ _ _ ((execOp (rho (tm.setIfInBounds t1 x)) o2).run P w)
  obtain ⟨as2, a21, a22⟩ := exec_call (P := P) (w := w) (tm := tm.setIfInBounds t1 x) h2
  rw [chkXs_v1 a21] at a22
  rw [a22, Oper.uponIn_enter, show List.map (rho (tm.setIfInBounds t1 x)) [Operand.tmp t1] = [x] by show [rho _ (.tmp t1)] = [x]; rw [show rho (tm.setIfInBounds t1 x) (.tmp t1) = x from g1]]
  refine ⟨fun h => (by cases h), callsWF ((hcc.2 S' w [x] hI'.ex hLw (.cons hrx .nil)).mono ?_)⟩
  rintro en w1 ⟨v2, rfl, hb1, hr1⟩
  obtain ⟨ob, hob, how⟩ := hr1
  obtain ⟨b, rfl⟩ : ∃ b, ob = some b := by
    cases ob with
    | some b => exact ⟨b, rfl⟩
    | none =>
      simp only [OwnR] at how
      rcases how with ⟨_, _, h, _⟩ | ⟨_, _, _, h, _⟩
      · omega
      · cases h
  obtain ⟨hb0, hbs⟩ := hob b rfl
  have how2 : OwnR P S' w1 (some b) (.own true e m cs) v2 := how.simple hsim (fun j hj => by have := hI'.ex b j hj; omega)
  rw [h2d]
  apply hK2
  show wpListIn _ _ _ _ _ _ ⟨(tm.setIfInBounds t1 x).setIfInBounds t2 v2, df⟩ w1
  have g2 : ((tm.setIfInBounds t1 x).setIfInBounds t2 v2).getD t2 undef = v2 := getD_set_eq _ (by rw [Array.size_setIfInBounds, sz0]; exact ht2.1)
  have g2q : ((tm.setIfInBounds t1 x).setIfInBounds t2 v2).getD q undef = tm.getD q undef := (getD_set_ne _ hqt.2).trans (getD_set_ne _ hqt.1)
  generalize htm2 : (tm.setIfInBounds t1 x).setIfInBounds t2 v2 = tm2 at g2 g2q ⊢
  have sz2 : tm2.size = n.n := by rw [← htm2, Array.size_setIfInBounds, Array.size_setIfInBounds, sz0]
  refine wpListIn_plain h3g fun K3 hK3 => ⟨fun _ _ => trivial, ?_⟩
  rw [Oper.semAt_plain _ _ _ (by rw [h3]; intro c h; cases h)]
  show Oper.uponIn _ _ _ _ _ _ _ ((execOp (rho tm2) o3).run P w1)
  have x3 : (execOp (rho tm2) o3).run P w1 = .ok (.value (.func (.func fh) #[] #[tm.getD q undef])) w1 := by
    have e3 : rho tm2 (.tmp q) = tm.getD q undef := g2q
    simp [execOp, h3, Instr.makeFunc, e3]
  rw [x3, Oper.uponIn_value, h3d]
  apply hK3
  show wpListIn _ _ _ _ _ _ ⟨tm2.setIfInBounds t3 (.func (.func fh) #[] #[tm.getD q undef]), df⟩ w1
  have g3 : (tm2.setIfInBounds t3 (.func (.func fh) #[] #[tm.getD q undef])).getD t3 undef = .func (.func fh) #[] #[tm.getD q undef] := getD_set_eq _ (by rw [sz2]; exact ht3.1)
  have g32 : (tm2.setIfInBounds t3 (.func (.func fh) #[] #[tm.getD q undef])).getD t2 undef = v2 := (getD_set_ne _ h23).trans g2
  generalize htm3 : tm2.setIfInBounds t3 (.func (.func fh) #[] #[tm.getD q undef]) = tm3 at g3 g32 ⊢
  have sz3 : tm3.size = n.n := by rw [← htm3, Array.size_setIfInBounds, sz2]
  refine wpListIn_plain h4g fun K4 hK4 => ⟨fun _ _ => trivial, ?_⟩
  rw [semAt_chk h4 (by intro h; cases h)]
  show Oper.uponIn _ _ _ _ _ _ _ ((execOp (rho tm3) o4).run P w1)
  obtain ⟨as4, a41, a42⟩ := exec_call (P := P) (w := w1) (tm := tm3) h4
  rw [chkXs_v2 a41] at a42
  have hcell1 : ∀ b' o', S' b' o' → w1.cell? ⟨b', o', none⟩ = w.cell? ⟨b', o', none⟩ := fun b' o' hs => hb1.cell (p := ⟨b', o', none⟩) (hI'.ex b' o' hs)
  have hclo : Rep S' w1 (.clo fh [.pt caps]) (.func (.func fh) #[] [tm.getD q undef].toArray) :=
    .clo fh [.pt caps] [tm.getD q undef] rfl (Reps.cons (hrq.mono (fun _ _ z => z) hcell1) Reps.nil).2
  rw [a42, Oper.uponIn_enter, show List.map (rho tm3) [Operand.tmp t2, Operand.tmp t3] = [v2, .func (.func fh) #[] [tm.getD q undef].toArray] by
    show [rho _ (.tmp t2), rho _ (.tmp t3)] = _; rw [show rho tm3 (.tmp t2) = v2 from g32, show rho tm3 (.tmp t3) = _ from g3]]
  have hbel1 : Below w0.heap.size w0 w1 := hI.below.trans (hb1.mono hI.below.size)
  refine ⟨fun h => (by cases h), callsWF ((hcw.2 w0 w1 b S' v2 _ hL0 hbel1 (Nat.le_trans hI.below.size hb0) hbs (fun c j h => Nat.lt_of_lt_of_le (hI'.ex c j h) hb1.size) how2 (.cons hclo .nil)).mono ?_)⟩
  rintro en w2 ⟨v4, rfl, hb2, hr2⟩
  have hts : (trunc w1 b).heap.size = b := trunc_size (by omega)
  have hsz2 : b ≤ w2.heap.size := by have := hb2.size; rw [hts] at this; exact this
  have hbel2 : Below w.heap.size w w2 := ⟨hb2.os.trans hb1.os, hb2.tape.trans hb1.tape, hb2.output.trans hb1.output, by omega, fun kk hk => (hb2.block kk (by omega)).trans ((trunc_get (by omega)).trans (hb1.block kk hk))⟩
  rw [h4d]
  apply hK4
  show wpListIn _ _ _ _ _ _ ⟨tm3.setIfInBounds t4 v4, df⟩ w2
  have g4 : (tm3.setIfInBounds t4 v4).getD t4 undef = v4 := getD_set_eq _ (by rw [sz3]; exact ht4.1)
  refine wpListIn_plain h5g fun K5 hK5 => ⟨fun _ _ => trivial, ?_⟩
  rw [Oper.semAt_plain _ _ _ (by rw [h5]; intro c h; cases h)]
  show Oper.uponIn _ _ _ _ _ _ _ ((execOp (rho (tm3.setIfInBounds t4 v4)) o5).run P w2)
  rw [exec_move (P := P) (w := w2) (o := o5) (.inr h5) (rho _), Oper.uponIn_value, h5d, show rho (tm3.setIfInBounds t4 v4) (.tmp t4) = v4 from g4]
  apply hK5
  have hI3 := hI2.touch (t := t1) x ht1.2 (un t1 fun s hs => (hno s hs).1) (hal t1)
  have hI4 := hI3.touch (t := t2) v2 ht2.2 (un t2 fun s hs => (hno s hs).2.1) (hal t2)
  rw [htm2] at hI4
  have hI5 := hI4.touch (t := t3) (.func (.func fh) #[] #[tm.getD q undef]) ht3.2 (un t3 fun s hs => (hno s hs).2.2.1) (hal t3)
  rw [htm3] at hI5
  have hI6 := hI5.touch (t := t4) v4 ht4.2 (un t4 fun s hs => (hno s hs).2.2.2.1) (hal t4)
  have hx : Ext w0 w w2 := ⟨hbel2.block, hI.below.trans (hbel2.mono hI.below.size), hbel2.size⟩
  have hI7 := hI6.setPure (S' := fun c j => S' c j ∨ (w.heap.size ≤ c ∧ c < w2.heap.size)) (dst := r) (d := .sl k ms) (v := v4) hx (fun _ _ z => .inl z) (fun _ _ z => z)
    (hr2.mono (fun c j z => z.elim (fun z => .inl z.1) (fun z => .inr ⟨Nat.le_trans hb0 z.1, z.2⟩)) (fun _ _ _ => rfl)) htr (fun t' s z _ => by rw [keepE_noAlias] at z; cases z)
  refine hQ _ _ w2 n df hM ?_ had ⟨_, _, _, by rw [lk_sets]; exact hI7⟩
  intro t
  rw [lk_sets]
  show aliasOf (upd (lk (keepE out E)) r _ t) = none
  unfold upd
  split
  · rfl
  · exact keepE_noAlias out E t

theorem dfT_f {P : Program} {L : World → Prop} {p q r : Nat} {fc fh fd : FuncId} {e : TypeId} {out : List Nat} {M : Env → Prop} {E : Env} : (dfT P L p q r fc fh fd e out).f M E = ∃ (m k : Nat) (cs caps ms : List D) (wp wq : Bool), lk E p = .box wp [.sl m cs] ∧ lk E q = .box wq caps ∧ 0 < m ∧ (∀ d ∈ cs, d.simple = true) ∧
    Con P L fc [.sl m cs] (.own true e m cs) ∧ ConW P L fd e m cs [.clo fh [.pt caps]] k ms ∧ M (sets (keepE out E) [(r, .sl k ms)]) := rfl
end Go.Pi

/-
  THE LEMMAS OF EVALUATION UNDER A FEW NAMES. Own work.
-/
namespace Go.Pi
open Go

theorem evA : type_of% (And.intro @wC_seq <| And.intro @wC_reg <| And.intro @wC_cnd <| And.intro @wC_blk <| And.intro @wC_loop <| And.intro @wC_exit <| And.intro @wC_skip <| And.intro @wC_ret <| And.intro @wC_bad <| And.intro @GB_eq <| And.intro @zap_nil <| And.intro @zap_cons <| And.intro @lgF_g <| And.intro @lgF_b <| And.intro @sgOF_g <| And.intro @sgOF_b <| And.intro @sgPF_g <| And.intro @sgPF_b <| And.intro @wC_rfn <| And.intro @wC_cus <| And.intro @asgK_nrm <| And.intro @bodK_nrm <| And.intro @wE_nil <| And.intro @wE_none <| And.intro @wE_st <| And.intro @wE_some <| And.intro @regK_eq <| And.intro @seqK_nrm <| And.intro @seqK_exit <| And.intro @seqK_ret <| And.intro @blkK_nrm <| And.intro @blkK_exit <| And.intro @blkK_ret <| And.intro @loopK_nrm <| And.intro @loopK_exit <| And.intro @loopK_ret <| And.intro @cndF_t <| And.intro @cndF_f <| And.intro @cndF_p <| And.intro @grdF_t <| And.intro @grdF_f <| And.intro @grdF_s <| And.intro @grdF_pt <| And.intro @grdF_pf <| And.intro @ev_v <| And.intro @ev_k <| And.intro @ev_o <| And.intro @oev_al <| And.intro @oev_int <| And.intro @oev_sl <| And.intro @oev_str <| And.intro @oev_agg <| And.intro @oev_pt <| And.intro @oev_bool <| And.intro @lk_cons <| And.intro @lk_nil <| And.intro @st1_cons <| And.intro @st1_nil <| And.intro @keepE_cons <| @keepE_nil) := And.intro @wC_seq <| And.intro @wC_reg <| And.intro @wC_cnd <| And.intro @wC_blk <| And.intro @wC_loop <| And.intro @wC_exit <| And.intro @wC_skip <| And.intro @wC_ret <| And.intro @wC_bad <| And.intro @GB_eq <| And.intro @zap_nil <| And.intro @zap_cons <| And.intro @lgF_g <| And.intro @lgF_b <| And.intro @sgOF_g <| And.intro @sgOF_b <| And.intro @sgPF_g <| And.intro @sgPF_b <| And.intro @wC_rfn <| And.intro @wC_cus <| And.intro @asgK_nrm <| And.intro @bodK_nrm <| And.intro @wE_nil <| And.intro @wE_none <| And.intro @wE_st <| And.intro @wE_some <| And.intro @regK_eq <| And.intro @seqK_nrm <| And.intro @seqK_exit <| And.intro @seqK_ret <| And.intro @blkK_nrm <| And.intro @blkK_exit <| And.intro @blkK_ret <| And.intro @loopK_nrm <| And.intro @loopK_exit <| And.intro @loopK_ret <| And.intro @cndF_t <| And.intro @cndF_f <| And.intro @cndF_p <| And.intro @grdF_t <| And.intro @grdF_f <| And.intro @grdF_s <| And.intro @grdF_pt <| And.intro @grdF_pf <| And.intro @ev_v <| And.intro @ev_k <| And.intro @ev_o <| And.intro @oev_al <| And.intro @oev_int <| And.intro @oev_sl <| And.intro @oev_str <| And.intro @oev_agg <| And.intro @oev_pt <| And.intro @oev_bool <| And.intro @lk_cons <| And.intro @lk_nil <| And.intro @st1_cons <| And.intro @st1_nil <| And.intro @keepE_cons <| @keepE_nil
theorem evB : type_of% (And.intro @putF_int <| And.intro @putF_bool <| And.intro @putF_str <| And.intro @putF_sl <| And.intro @putF_agg <| And.intro @putF_tup <| And.intro @putF_pt <| And.intro @putF_clo <| And.intro @putF_err <| And.intro @cbsF_s <| And.intro @cbsF_o <| And.intro @atV <| And.intro @atO <| And.intro @ldC_ints <| And.intro @ldC_ints' <| And.intro @ldC_aggc <| And.intro @ldC_cons <| And.intro @stG_ints <| And.intro @stG_box <| And.intro @appF_oo <| And.intro @appF_os <| And.intro @ints_app <| And.intro @ints_snoc <| And.intro @ints_length <| And.intro @ints_nil <| And.intro @cut_ints <| And.intro @slcF_o <| And.intro @slcF_s <| And.intro @slc2_eq <| And.intro @slSF_eq <| And.intro @slS2_eq <| And.intro @mkfF_eq <| And.intro @capt_eq <| And.intro @captD_box <| And.intro @captD_pt <| And.intro @extF_eq <| And.intro @extO_eq <| And.intro @pickF_t <| And.intro @pickF_f <| And.intro @pickF_p <| And.intro @lend_eq <| And.intro @dulls_nil <| And.intro @dulls_v <| And.intro @dulls_k <| And.intro @dulls_o <| And.intro @bldF_eq <| And.intro @bldSF_eq <| And.intro @fillD_nil <| And.intro @fillD_cons <| And.intro @inR_i64 <| And.intro @inR_u64 <| And.intro @inR_u32 <| And.intro @inR_i32 <| And.intro @inR_u8 <| And.intro @dB_True <| And.intro @dB_False <| And.intro @dB_neg <| And.intro @dB_beq_true <| And.intro @dB_beq_false <| @maxLen_eq) := And.intro @putF_int <| And.intro @putF_bool <| And.intro @putF_str <| And.intro @putF_sl <| And.intro @putF_agg <| And.intro @putF_tup <| And.intro @putF_pt <| And.intro @putF_clo <| And.intro @putF_err <| And.intro @cbsF_s <| And.intro @cbsF_o <| And.intro @atV <| And.intro @atO <| And.intro @ldC_ints <| And.intro @ldC_ints' <| And.intro @ldC_aggc <| And.intro @ldC_cons <| And.intro @stG_ints <| And.intro @stG_box <| And.intro @appF_oo <| And.intro @appF_os <| And.intro @ints_app <| And.intro @ints_snoc <| And.intro @ints_length <| And.intro @ints_nil <| And.intro @cut_ints <| And.intro @slcF_o <| And.intro @slcF_s <| And.intro @slc2_eq <| And.intro @slSF_eq <| And.intro @slS2_eq <| And.intro @mkfF_eq <| And.intro @capt_eq <| And.intro @captD_box <| And.intro @captD_pt <| And.intro @extF_eq <| And.intro @extO_eq <| And.intro @pickF_t <| And.intro @pickF_f <| And.intro @pickF_p <| And.intro @lend_eq <| And.intro @dulls_nil <| And.intro @dulls_v <| And.intro @dulls_k <| And.intro @dulls_o <| And.intro @bldF_eq <| And.intro @bldSF_eq <| And.intro @fillD_nil <| And.intro @fillD_cons <| And.intro @inR_i64 <| And.intro @inR_u64 <| And.intro @inR_u32 <| And.intro @inR_i32 <| And.intro @inR_u8 <| And.intro @dB_True <| And.intro @dB_False <| And.intro @dB_neg <| And.intro @dB_beq_true <| And.intro @dB_beq_false <| @maxLen_eq
theorem evC : type_of% (And.intro @retQ_nrm <| And.intro @retQ_ret <| And.intro @resD_t <| And.intro @Option.map_some.{0, 0} <| And.intro @Option.map_none.{0, 0} <| And.intro @List.getElem?_cons_zero.{0} <| And.intro @List.getElem?_cons_succ.{0} <| And.intro @List.map_cons.{0, 0} <| And.intro @List.map_nil.{0, 0} <| And.intro @List.length_cons.{0} <| And.intro @List.length_nil.{0} <| And.intro @List.all_cons.{0} <| And.intro @List.all_nil.{0} <| And.intro @Bool.and_self <| And.intro @Bool.and_true <| And.intro @Bool.true_and <| And.intro @List.take_succ_cons.{0} <| And.intro @List.take_zero.{0} <| And.intro @List.drop_succ_cons.{0} <| And.intro @List.drop_zero.{0} <| And.intro @List.nil_append.{0} <| And.intro @List.cons_append.{0} <| And.intro @List.append_nil.{0} <| And.intro @List.drop_nil.{0} <| And.intro @List.take_nil.{0} <| And.intro @List.replicate_succ.{0} <| And.intro @List.replicate_zero.{0} <| And.intro @List.flatten_cons.{0} <| And.intro @List.flatten_nil.{0} <| And.intro @Nat.zero_add <| And.intro @Nat.add_zero <| And.intro @Nat.mul_one <| And.intro @Nat.one_mul <| And.intro @Nat.zero_mul <| And.intro @Nat.zero_le <| And.intro @Int.toNat_natCast <| And.intro @Int.toNat_zero <| And.intro @Nat.sub_zero <| And.intro @Nat.le_refl <| And.intro @List.cons.injEq.{0} <| And.intro @true_and <| And.intro @and_true <| And.intro @Bool.not_true <| And.intro @Bool.not_false <| And.intro @Bool.false_eq_true <| And.intro @Bool.not_eq_true <| And.intro @Option.some.injEq.{0} <| And.intro @D.sl.injEq <| And.intro @D.int.injEq <| And.intro @D.bool.injEq <| And.intro @and_self <| And.intro @ne_eq.{1} <| And.intro @not_false_eq_true <| And.intro @not_true_eq_false <| And.intro @Int.ofNat_eq_natCast <| And.intro @imp_self <| @false_implies) := And.intro @retQ_nrm <| And.intro @retQ_ret <| And.intro @resD_t <| And.intro @Option.map_some.{0, 0} <| And.intro @Option.map_none.{0, 0} <| And.intro @List.getElem?_cons_zero.{0} <| And.intro @List.getElem?_cons_succ.{0} <| And.intro @List.map_cons.{0, 0} <| And.intro @List.map_nil.{0, 0} <| And.intro @List.length_cons.{0} <| And.intro @List.length_nil.{0} <| And.intro @List.all_cons.{0} <| And.intro @List.all_nil.{0} <| And.intro @Bool.and_self <| And.intro @Bool.and_true <| And.intro @Bool.true_and <| And.intro @List.take_succ_cons.{0} <| And.intro @List.take_zero.{0} <| And.intro @List.drop_succ_cons.{0} <| And.intro @List.drop_zero.{0} <| And.intro @List.nil_append.{0} <| And.intro @List.cons_append.{0} <| And.intro @List.append_nil.{0} <| And.intro @List.drop_nil.{0} <| And.intro @List.take_nil.{0} <| And.intro @List.replicate_succ.{0} <| And.intro @List.replicate_zero.{0} <| And.intro @List.flatten_cons.{0} <| And.intro @List.flatten_nil.{0} <| And.intro @Nat.zero_add <| And.intro @Nat.add_zero <| And.intro @Nat.mul_one <| And.intro @Nat.one_mul <| And.intro @Nat.zero_mul <| And.intro @Nat.zero_le <| And.intro @Int.toNat_natCast <| And.intro @Int.toNat_zero <| And.intro @Nat.sub_zero <| And.intro @Nat.le_refl <| And.intro @List.cons.injEq.{0} <| And.intro @true_and <| And.intro @and_true <| And.intro @Bool.not_true <| And.intro @Bool.not_false <| And.intro @Bool.false_eq_true <| And.intro @Bool.not_eq_true <| And.intro @Option.some.injEq.{0} <| And.intro @D.sl.injEq <| And.intro @D.int.injEq <| And.intro @D.bool.injEq <| And.intro @and_self <| And.intro @ne_eq.{1} <| And.intro @not_false_eq_true <| And.intro @not_true_eq_false <| And.intro @Int.ofNat_eq_natCast <| And.intro @imp_self <| @false_implies
/-! ### with guards that are looked at first -/
section gg
variable {C : FuncId → List D → D → Prop} {s t : Nat} {w : Bool} {k : K} {ps : List PO} {N : EP} {E : Env} {p : Prop}
def gg (C : FuncId → List D → D → Prop) (s : Nat) (w : Bool) (t : Nat) (d : D) (k : K) (ps : List PO) (N : EP) (E : Env) : Prop := grdF s w t d (stepF C k t (wE C ps N)) (wE C ps N) E
theorem wE_gg : wE C (⟨some t, k, some (s, w)⟩ :: ps) N E = gg C s w t (lk E s) k ps N E := rfl
theorem gg_tt : gg C s true t (.bool true) k ps N E = stepF C k t (wE C ps N) (st1 E s (.bool true)) := by simp only [gg, grdF_t, if_true]
theorem gg_tf : gg C s false t (.bool true) k ps N E = wE C ps N (st1 (st1 E s (.bool true)) t (.tup [])) := by simp [gg, grdF_t]
theorem gg_ft : gg C s true t (.bool false) k ps N E = wE C ps N (st1 (st1 E s (.bool false)) t (.tup [])) := by simp [gg, grdF_f]
theorem gg_ff : gg C s false t (.bool false) k ps N E = stepF C k t (wE C ps N) (st1 E s (.bool false)) := by simp [gg, grdF_f]
theorem gg_s : gg C s w t (.tup []) k ps N E = wE C ps N (st1 E t (.tup [])) := rfl
theorem gg_pt : gg C s true t (.bool (dB p)) k ps N E = ((p → stepF C k t (wE C ps N) (st1 E s (.bool true))) ∧ (¬p → wE C ps N (st1 (st1 E s (.bool false)) t (.tup [])))) := by simp only [gg, grdF_pt]
theorem gg_pf : gg C s false t (.bool (dB p)) k ps N E = ((¬p → stepF C k t (wE C ps N) (st1 E s (.bool false))) ∧ (p → wE C ps N (st1 (st1 E s (.bool true)) t (.tup [])))) := by simp only [gg, grdF_pf]
end gg
theorem evX : type_of% (And.intro @wC_seq <| And.intro @wC_reg <| And.intro @wC_cnd <| And.intro @wC_blk <| And.intro @wC_loop <| And.intro @wC_exit <| And.intro @wC_skip <| And.intro @wC_ret <| And.intro @wC_bad <| And.intro @GB_eq <| And.intro @zap_nil <| And.intro @zap_cons <| And.intro @lgF_g <| And.intro @lgF_b <| And.intro @sgOF_g <| And.intro @sgOF_b <| And.intro @sgPF_g <| And.intro @sgPF_b <| And.intro @wC_rfn <| And.intro @wC_cus <| And.intro @asgK_nrm <| And.intro @bodK_nrm <| And.intro @wE_nil <| And.intro @wE_none <| And.intro @wE_st <| And.intro @regK_eq <| And.intro @seqK_nrm <| And.intro @seqK_exit <| And.intro @seqK_ret <| And.intro @blkK_nrm <| And.intro @blkK_exit <| And.intro @blkK_ret <| And.intro @loopK_nrm <| And.intro @loopK_exit <| And.intro @loopK_ret <| And.intro @cndF_t <| And.intro @cndF_f <| And.intro @cndF_p <| And.intro @ev_v <| And.intro @ev_k <| And.intro @ev_o <| And.intro @oev_al <| And.intro @oev_int <| And.intro @oev_sl <| And.intro @oev_str <| And.intro @oev_agg <| And.intro @oev_pt <| And.intro @oev_bool <| And.intro @lk_cons <| And.intro @lk_nil <| And.intro @st1_cons <| And.intro @st1_nil <| And.intro @keepE_cons <| And.intro @keepE_nil <| And.intro @putF_int <| And.intro @putF_bool <| And.intro @putF_str <| And.intro @putF_sl <| And.intro @putF_agg <| @putF_tup) := And.intro @wC_seq <| And.intro @wC_reg <| And.intro @wC_cnd <| And.intro @wC_blk <| And.intro @wC_loop <| And.intro @wC_exit <| And.intro @wC_skip <| And.intro @wC_ret <| And.intro @wC_bad <| And.intro @GB_eq <| And.intro @zap_nil <| And.intro @zap_cons <| And.intro @lgF_g <| And.intro @lgF_b <| And.intro @sgOF_g <| And.intro @sgOF_b <| And.intro @sgPF_g <| And.intro @sgPF_b <| And.intro @wC_rfn <| And.intro @wC_cus <| And.intro @asgK_nrm <| And.intro @bodK_nrm <| And.intro @wE_nil <| And.intro @wE_none <| And.intro @wE_st <| And.intro @regK_eq <| And.intro @seqK_nrm <| And.intro @seqK_exit <| And.intro @seqK_ret <| And.intro @blkK_nrm <| And.intro @blkK_exit <| And.intro @blkK_ret <| And.intro @loopK_nrm <| And.intro @loopK_exit <| And.intro @loopK_ret <| And.intro @cndF_t <| And.intro @cndF_f <| And.intro @cndF_p <| And.intro @ev_v <| And.intro @ev_k <| And.intro @ev_o <| And.intro @oev_al <| And.intro @oev_int <| And.intro @oev_sl <| And.intro @oev_str <| And.intro @oev_agg <| And.intro @oev_pt <| And.intro @oev_bool <| And.intro @lk_cons <| And.intro @lk_nil <| And.intro @st1_cons <| And.intro @st1_nil <| And.intro @keepE_cons <| And.intro @keepE_nil <| And.intro @putF_int <| And.intro @putF_bool <| And.intro @putF_str <| And.intro @putF_sl <| And.intro @putF_agg <| @putF_tup
theorem evY : type_of% (And.intro @putF_pt <| And.intro @putF_clo <| And.intro @putF_err <| And.intro @cbsF_s <| And.intro @cbsF_o <| And.intro @atV <| And.intro @atO <| And.intro @ldC_ints <| And.intro @ldC_ints' <| And.intro @ldC_aggc <| And.intro @ldC_cons <| And.intro @stG_ints <| And.intro @stG_box <| And.intro @appF_oo <| And.intro @appF_os <| And.intro @ints_app <| And.intro @ints_snoc <| And.intro @ints_length <| And.intro @ints_nil <| And.intro @cut_ints <| And.intro @slcF_o <| And.intro @slcF_s <| And.intro @slc2_eq <| And.intro @slSF_eq <| And.intro @slS2_eq <| And.intro @mkfF_eq <| And.intro @capt_eq <| And.intro @captD_box <| And.intro @captD_pt <| And.intro @extF_eq <| And.intro @extO_eq <| And.intro @pickF_t <| And.intro @pickF_f <| And.intro @pickF_p <| And.intro @lend_eq <| And.intro @dulls_nil <| And.intro @dulls_v <| And.intro @dulls_k <| And.intro @dulls_o <| And.intro @bldF_eq <| And.intro @bldSF_eq <| And.intro @fillD_nil <| And.intro @fillD_cons <| And.intro @inR_i64 <| And.intro @inR_u64 <| And.intro @inR_u32 <| And.intro @inR_i32 <| And.intro @inR_u8 <| And.intro @dB_True <| And.intro @dB_False <| And.intro @dB_neg <| And.intro @dB_beq_true <| And.intro @dB_beq_false <| And.intro @maxLen_eq <| And.intro @retQ_nrm <| And.intro @retQ_ret <| And.intro @resD_t <| And.intro @Option.map_some.{0, 0} <| And.intro @Option.map_none.{0, 0} <| @List.getElem?_cons_zero.{0}) := And.intro @putF_pt <| And.intro @putF_clo <| And.intro @putF_err <| And.intro @cbsF_s <| And.intro @cbsF_o <| And.intro @atV <| And.intro @atO <| And.intro @ldC_ints <| And.intro @ldC_ints' <| And.intro @ldC_aggc <| And.intro @ldC_cons <| And.intro @stG_ints <| And.intro @stG_box <| And.intro @appF_oo <| And.intro @appF_os <| And.intro @ints_app <| And.intro @ints_snoc <| And.intro @ints_length <| And.intro @ints_nil <| And.intro @cut_ints <| And.intro @slcF_o <| And.intro @slcF_s <| And.intro @slc2_eq <| And.intro @slSF_eq <| And.intro @slS2_eq <| And.intro @mkfF_eq <| And.intro @capt_eq <| And.intro @captD_box <| And.intro @captD_pt <| And.intro @extF_eq <| And.intro @extO_eq <| And.intro @pickF_t <| And.intro @pickF_f <| And.intro @pickF_p <| And.intro @lend_eq <| And.intro @dulls_nil <| And.intro @dulls_v <| And.intro @dulls_k <| And.intro @dulls_o <| And.intro @bldF_eq <| And.intro @bldSF_eq <| And.intro @fillD_nil <| And.intro @fillD_cons <| And.intro @inR_i64 <| And.intro @inR_u64 <| And.intro @inR_u32 <| And.intro @inR_i32 <| And.intro @inR_u8 <| And.intro @dB_True <| And.intro @dB_False <| And.intro @dB_neg <| And.intro @dB_beq_true <| And.intro @dB_beq_false <| And.intro @maxLen_eq <| And.intro @retQ_nrm <| And.intro @retQ_ret <| And.intro @resD_t <| And.intro @Option.map_some.{0, 0} <| And.intro @Option.map_none.{0, 0} <| @List.getElem?_cons_zero.{0}
theorem evZ : type_of% (And.intro @List.getElem?_cons_succ.{0} <| And.intro @List.map_cons.{0, 0} <| And.intro @List.map_nil.{0, 0} <| And.intro @List.length_cons.{0} <| And.intro @List.length_nil.{0} <| And.intro @List.all_cons.{0} <| And.intro @List.all_nil.{0} <| And.intro @Bool.and_self <| And.intro @Bool.and_true <| And.intro @Bool.true_and <| And.intro @List.take_succ_cons.{0} <| And.intro @List.take_zero.{0} <| And.intro @List.drop_succ_cons.{0} <| And.intro @List.drop_zero.{0} <| And.intro @List.nil_append.{0} <| And.intro @List.cons_append.{0} <| And.intro @List.append_nil.{0} <| And.intro @List.drop_nil.{0} <| And.intro @List.take_nil.{0} <| And.intro @List.replicate_succ.{0} <| And.intro @List.replicate_zero.{0} <| And.intro @List.flatten_cons.{0} <| And.intro @List.flatten_nil.{0} <| And.intro @Nat.zero_add <| And.intro @Nat.add_zero <| And.intro @Nat.mul_one <| And.intro @Nat.one_mul <| And.intro @Nat.zero_mul <| And.intro @Nat.zero_le <| And.intro @Int.toNat_natCast <| And.intro @Int.toNat_zero <| And.intro @Nat.sub_zero <| And.intro @Nat.le_refl <| And.intro @List.cons.injEq.{0} <| And.intro @true_and <| And.intro @and_true <| And.intro @Bool.not_true <| And.intro @Bool.not_false <| And.intro @Bool.false_eq_true <| And.intro @Bool.not_eq_true <| And.intro @Option.some.injEq.{0} <| And.intro @D.sl.injEq <| And.intro @D.int.injEq <| And.intro @D.bool.injEq <| And.intro @and_self <| And.intro @ne_eq.{1} <| And.intro @not_false_eq_true <| And.intro @not_true_eq_false <| And.intro @Int.ofNat_eq_natCast <| And.intro @imp_self <| And.intro @false_implies <| And.intro @wE_gg <| And.intro @gg_tt <| And.intro @gg_tf <| And.intro @gg_ft <| And.intro @gg_ff <| And.intro @gg_s <| And.intro @gg_pt <| @gg_pf) := And.intro @List.getElem?_cons_succ.{0} <| And.intro @List.map_cons.{0, 0} <| And.intro @List.map_nil.{0, 0} <| And.intro @List.length_cons.{0} <| And.intro @List.length_nil.{0} <| And.intro @List.all_cons.{0} <| And.intro @List.all_nil.{0} <| And.intro @Bool.and_self <| And.intro @Bool.and_true <| And.intro @Bool.true_and <| And.intro @List.take_succ_cons.{0} <| And.intro @List.take_zero.{0} <| And.intro @List.drop_succ_cons.{0} <| And.intro @List.drop_zero.{0} <| And.intro @List.nil_append.{0} <| And.intro @List.cons_append.{0} <| And.intro @List.append_nil.{0} <| And.intro @List.drop_nil.{0} <| And.intro @List.take_nil.{0} <| And.intro @List.replicate_succ.{0} <| And.intro @List.replicate_zero.{0} <| And.intro @List.flatten_cons.{0} <| And.intro @List.flatten_nil.{0} <| And.intro @Nat.zero_add <| And.intro @Nat.add_zero <| And.intro @Nat.mul_one <| And.intro @Nat.one_mul <| And.intro @Nat.zero_mul <| And.intro @Nat.zero_le <| And.intro @Int.toNat_natCast <| And.intro @Int.toNat_zero <| And.intro @Nat.sub_zero <| And.intro @Nat.le_refl <| And.intro @List.cons.injEq.{0} <| And.intro @true_and <| And.intro @and_true <| And.intro @Bool.not_true <| And.intro @Bool.not_false <| And.intro @Bool.false_eq_true <| And.intro @Bool.not_eq_true <| And.intro @Option.some.injEq.{0} <| And.intro @D.sl.injEq <| And.intro @D.int.injEq <| And.intro @D.bool.injEq <| And.intro @and_self <| And.intro @ne_eq.{1} <| And.intro @not_false_eq_true <| And.intro @not_true_eq_false <| And.intro @Int.ofNat_eq_natCast <| And.intro @imp_self <| And.intro @false_implies <| And.intro @wE_gg <| And.intro @gg_tt <| And.intro @gg_tf <| And.intro @gg_ft <| And.intro @gg_ff <| And.intro @gg_s <| And.intro @gg_pt <| @gg_pf
theorem stG_own {k : IntKind} {l : List Int} {j n m s : Nat} {x : Int} {N : EP} {E : Env} : stG 1 s j (.own true n m (ints k l)) (.int k x) N E = (j < l.length ∧ N (st1 E s (.own true n m (ints k (l.set j x))))) := stG_ints (t := 0)
theorem bqtt : (true == true) = true := rfl
theorem bqtf : (true == false) = false := rfl
theorem bqft : (false == true) = false := rfl
theorem bqff : (false == false) = true := rfl
/-- one evaluation: the second hypothesis is found by the tactic -/
theorem ev {p q : Prop} (h : q) (e : p = q := by first | (simp only [evX, evY, evZ, forall_const, implies_true, initE, stepF, D.clean, mvF, moF, tkF, shF, ariF, ciF, catF, scF, ebF, eqF, eqOk, eqPr, enF, notF, ngF, cvF, csF, csbF, lenF, lenSF, ixF, iaF, PX.slot, iaAF, faF, ldF, D.mem, stF, bxF, mkSF, boundF, fldF, mmF2, D.plain, D.isPure, optAll, D.dull, callVF, splice, D.cells, D.one, sets, resT, D.flat, D.flat0, D.simple, Nat.reduceBNe, Nat.reduceLT, reduceIte, Nat.reduceEqDiff, Nat.reduceAdd, Nat.reduceMul, Nat.reduceSub, Nat.reduceLeDiff, Int.reduceToNat, Int.reduceLT, Int.reduceLE, Int.reduceEq, Int.reduceNeg, Int.reduceSub, Int.reduceAdd, Int.reduceMul, stG_own, bqtt, bqtf, bqft, bqff]; done) | (simp only [evX, evY, evZ, forall_const, implies_true, initE, stepF, D.clean, mvF, moF, tkF, shF, ariF, ciF, catF, scF, ebF, eqF, eqOk, eqPr, enF, notF, ngF, cvF, csF, csbF, lenF, lenSF, ixF, iaF, PX.slot, iaAF, faF, ldF, D.mem, stF, bxF, mkSF, boundF, fldF, mmF2, D.plain, D.isPure, optAll, D.dull, callVF, splice, D.cells, D.one, sets, resT, D.flat, D.flat0, D.simple, Nat.reduceBNe, Nat.reduceLT, reduceIte, Nat.reduceEqDiff, Nat.reduceAdd, Nat.reduceMul, Nat.reduceSub, Nat.reduceLeDiff, Int.reduceToNat, Int.reduceLT, Int.reduceLE, Int.reduceEq, Int.reduceNeg, Int.reduceSub, Int.reduceAdd, Int.reduceMul, stG_own, bqtt, bqtf, bqft, bqff]; exact rfl)) : p := by rw [e]; exact h
theorem ev0 {p q : Prop} (h : q) (e : p = q := by first | (simp only [evA, evB, evC, forall_const, implies_true, initE, stepF, D.clean, mvF, moF, tkF, shF, ariF, ciF, catF, scF, ebF, eqF, eqOk, eqPr, enF, notF, ngF, cvF, csF, csbF, lenF, lenSF, ixF, iaF, PX.slot, iaAF, faF, ldF, D.mem, stF, bxF, mkSF, boundF, fldF, mmF2, D.plain, D.isPure, optAll, D.dull, callVF, splice, D.cells, D.one, sets, resT, D.flat, D.flat0, D.simple, Nat.reduceBNe, Nat.reduceLT, reduceIte, Nat.reduceEqDiff, Nat.reduceAdd, Nat.reduceMul, Nat.reduceSub, Nat.reduceLeDiff, Int.reduceToNat, Int.reduceLT, Int.reduceLE, Int.reduceEq, Int.reduceNeg, Int.reduceSub, Int.reduceAdd, Int.reduceMul]; done) | (simp only [evA, evB, evC, forall_const, implies_true, initE, stepF, D.clean, mvF, moF, tkF, shF, ariF, ciF, catF, scF, ebF, eqF, eqOk, eqPr, enF, notF, ngF, cvF, csF, csbF, lenF, lenSF, ixF, iaF, PX.slot, iaAF, faF, ldF, D.mem, stF, bxF, mkSF, boundF, fldF, mmF2, D.plain, D.isPure, optAll, D.dull, callVF, splice, D.cells, D.one, sets, resT, D.flat, D.flat0, D.simple, Nat.reduceBNe, Nat.reduceLT, reduceIte, Nat.reduceEqDiff, Nat.reduceAdd, Nat.reduceMul, Nat.reduceSub, Nat.reduceLeDiff, Int.reduceToNat, Int.reduceLT, Int.reduceLE, Int.reduceEq, Int.reduceNeg, Int.reduceSub, Int.reduceAdd, Int.reduceMul]; exact rfl)) : p := by rw [e]; exact h
end Go.Pi
