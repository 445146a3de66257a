/-
  THE READING, MADE FOR SIMPLIFYING: code. Own work.
-/
import Derived.Test.YthfgjhnckegneaaGreatDoorPiV
namespace Go.Pi
open Go Go.RowKit

def grdF (s : Nat) (want : Bool) (t : Nat) (d : D) (A B : EP) (E : Env) : Prop := match d with
  | .bool b => (b = want → A (st1 E s (.bool want))) ∧ ((!b) = want → B (st1 (st1 E s (.bool !want)) t (.tup [])))
  | .tup [] => B (st1 E t (.tup []))
  | _ => False

def wE (C : CT) : List PO → EP → EP
  | [], N, E => N E
  | p :: ps, N, E => match p.guard with
    | none => stepF C p.k p.d (wE C ps N) E
    | some (s, want) => grdF s want p.d (lk E s) (stepF C p.k p.d (wE C ps N)) (wE C ps N) E

def regK (live : List Nat) (Q : Ex → EP) : EP := fun E => Q .nrm (keepE live E)
def seqK (W : (Ex → EP) → EP) (Q : Ex → EP) : Ex → EP
  | .nrm, E => W Q E
  | .exit id, E => Q (.exit id) E
  | .ret, E => Q .ret E
def blkK (id : Nat) (Q : Ex → EP) : Ex → EP
  | .nrm, E => Q .nrm E
  | .exit id', E => if id' = id then Q .nrm E else Q (.exit id') E
  | .ret, E => Q .ret E
def cndF (d : D) (A B : EP) (E : Env) : Prop := match d with
  | .bool b => (b = true → A E) ∧ (b = false → B E)
  | _ => False
def loopK (I : EP) (m : Env → Nat) (E0 : Env) (Q : Ex → EP) : Ex → EP
  | .nrm, E => I E ∧ m E < m E0
  | .exit id, E => Q (.exit id) E
  | .ret, E => Q .ret E
def loopF (W : (Ex → EP) → EP) (Q : Ex → EP) (E : Env) : Prop := ∃ (I : EP) (m : Env → Nat), I E ∧ ∀ E0, I E0 → W (loopK I m E0 Q) E0

/-- a range over slices.Backward: the assignment, the body -/
def bodK (out : List Nat) (J : EP) : Ex → EP
  | .nrm, E => J (keepE out E)
  | _, _ => False
def asgK (out : List Nat) (J : EP) (Wb : (Ex → EP) → EP) : Ex → EP
  | .nrm, E => Wb (bodK out J) E
  | _, _ => False
def rfnF (f : Nat) (ag : Bool) (sz gs k1 k2 : Nat) (out : List Nat) (Wa Wb : (Ex → EP) → EP) (Q : Ex → EP) (d : D) (E : Env) : Prop :=
  backOf f d fun m cs => m * sz = cs.length ∧
      ∃ I : Nat → EP, I 0 (keepE out E) ∧ (∀ k E1, I k E1 → lk E1 gs = d) ∧ (∀ E1, I m E1 → Q .nrm E1) ∧
        ∀ k E1, k < m → I k E1 → ∃ d, ofCells ag sz (cs.drop ((m - 1 - k) * sz)) = some d ∧ d.flat0 = true ∧
          Wa (asgK out (I (k + 1)) Wb) (sets E1 [(k1, .int .i64 ((m - 1 - k : Nat) : Int)), (k2, d)])

def wC (C : CT) : PC → (Ex → EP) → EP
  | .skip, Q, E => Q .nrm E
  | .bad, _, _ => False
  | .seq a b, Q, E => wC C a (seqK (wC C b) Q) E
  | .reg ops live, Q, E => wE C ops (regK live Q) E
  | .cnd c t e, Q, E => cndF (c.ev (lk E)) (wC C t Q) (wC C e Q) E
  | .blk id b, Q, E => wC C b (blkK id Q) E
  | .loop b, Q, E => loopF (wC C b) Q E
  | .exit id, Q, E => Q (.exit id) E
  | .ret, Q, E => Q .ret E
  | .rfn f ag sz gs k1 k2 _ asg body out, Q, E => rfnF f ag sz gs k1 k2 out (wC C asg) (wC C body) Q (lk E gs) E
  | .cus _ T, Q, E => T.f (Q .nrm) E

theorem doE_mono {C : CT} {p : PO} {M M' : EP} {E : Env} (hM : ∀ E, M E → M' E) (h : doE C p M E) : doE C p M' E := by
  unfold doE at h ⊢
  have hcall : ∀ {f ods A B}, (∀ r : D, A r → B r) → CallP C f ods A → CallP C f ods B := by
    intro f ods A B hAB h
    unfold CallP at h ⊢
    split at h
    · obtain ⟨r, h1, h2⟩ := h; exact ⟨r, h1, hAB r h2⟩
    · exact h
  split at h
  · exact hcall (fun r => hM _) h
  · split at h
    · exact hcall (fun r => hM _) h
    · exact h.elim
  · split at h
    · exact hM _ h
    · exact h.elim

theorem st1_id {d : D} : ∀ {E : Env} {s : Nat}, lk E s = d → d ≠ .un → st1 E s d = E
  | [], s, h, hn => by simp [lk] at h; exact absurd h.symm hn
  | (k, e) :: r, s, h, hn => by
    simp only [lk] at h
    simp only [st1]
    split
    · rename_i hk; rw [if_pos hk] at h; subst hk; subst h; rfl
    · rename_i hk; rw [if_neg hk] at h; rw [st1_id h hn]

theorem wE_sound {C : CT} : ∀ {ps : List PO} {N N' : EP} {E : Env}, (∀ E, N E → N' E) → wE C ps N E → wpE C ps N' E
  | [], N, N', E, hN, h => hN _ h
  | p :: ps, N, N', E, hN, h => by
    obtain ⟨d, k, gd⟩ := p
    unfold wE at h
    unfold wpE
    cases gd with
    | none => exact doE_mono (fun E h => wE_sound hN h) (stepF_sound rfl h)
    | some g =>
      obtain ⟨s, want⟩ := g
      simp only at h ⊢
      unfold grdF at h
      split at h
      · rename_i b hb
        rw [hb]
        simp only
        refine ⟨fun e => ?_, fun e => ?_⟩
        · have h1 := h.1 e
          subst e
          rw [st1_id hb (by simp)] at h1
          exact doE_mono (M := wE C ps N) (p := ⟨d, k, none⟩) (fun E h => wE_sound hN h) (stepF_sound rfl h1)
        · have h1 := h.2 e
          subst e
          rw [Bool.not_not, st1_id hb (by simp)] at h1
          exact wE_sound hN h1
      · rename_i hb
        rw [hb]
        exact wE_sound hN h
      · exact h.elim

theorem wC_sound' {C : CT} : ∀ {pc : PC} {Q Q' : Ex → EP} {E : Env}, (∀ ex E, Q ex E → Q' ex E) → wC C pc Q E → wpC C pc Q' E := by
  intro pc
  induction pc with
  | skip => intro Q Q' E hQ h; exact hQ _ _ h
  | bad => intro Q Q' E hQ h; exact h.elim
  | seq a b iha ihb =>
    intro Q Q' E hQ h
    refine iha (Q := seqK (wC C b) Q) ?_ h
    intro ex E h
    cases ex with
    | nrm => exact ihb hQ h
    | exit id => exact hQ _ _ h
    | ret => exact hQ _ _ h
  | reg ops live =>
    intro Q Q' E hQ h
    exact wE_sound (N := regK live Q) (fun E h => hQ _ _ h) h
  | cnd c t e iht ihe =>
    intro Q Q' E hQ h
    simp only [wC] at h
    simp only [wpC]
    unfold cndF at h
    split at h
    · rename_i b hb
      rw [hb]
      exact ⟨fun e => iht hQ (h.1 e), fun e => ihe hQ (h.2 e)⟩
    · exact h.elim
  | blk id b ih =>
    intro Q Q' E hQ h
    refine ih (Q := blkK id Q) ?_ h
    intro ex E h
    cases ex with
    | nrm => exact hQ _ _ h
    | exit id' =>
      simp only [blkK] at h ⊢
      split at h
      · rename_i e; simp only [e, if_true]; exact hQ _ _ h
      · rename_i e; simp only [e, if_false]; exact hQ _ _ h
    | ret => exact hQ _ _ h
  | loop b ih =>
    intro Q Q' E hQ h
    obtain ⟨I, m, h1, h2⟩ := h
    refine ⟨I, m, h1, fun E0 h0 => ih (Q := loopK I m E0 Q) ?_ (h2 E0 h0)⟩
    intro ex E h
    cases ex with
    | nrm => exact h
    | exit id => exact hQ _ _ h
    | ret => exact hQ _ _ h
  | exit id => intro Q Q' E hQ h; exact hQ _ _ h
  | ret => intro Q Q' E hQ h; exact hQ _ _ h
  | rfn f ag sz gs k1 k2 rs asg body out iha ihb =>
    intro Q Q' E hQ h
    simp only [wC, rfnF] at h
    simp only [wpC]
    unfold backOf at h ⊢
    split at h
    · rename_i f' m cs r hd
      obtain ⟨h1, h2, I, h3, h4, h5, h6⟩ := h
      rw [hd] at h4 ⊢
      refine ⟨h1, h2, I, h3, h4, fun E1 hE => hQ _ _ (h5 E1 hE), fun k E1 hk hE => ?_⟩
      obtain ⟨d, h7, h8, h9⟩ := h6 k E1 hk hE
      refine ⟨d, h7, h8, iha ?_ h9⟩
      intro ex E2 hx
      cases ex with
      | nrm =>
        refine ihb ?_ hx
        intro ex E3 hx
        cases ex with
        | nrm => exact hx
        | exit id => exact hx.elim
        | ret => exact hx.elim
      | exit id => exact hx.elim
      | ret => exact hx.elim
    · exact h.elim
  | cus ws T => intro Q Q' E hQ h; exact T.mono (fun E h => hQ _ _ h) h

theorem wC_sound {C : CT} {pc : PC} {Q : Ex → EP} {E : Env} (h : wC C pc Q E) : wpC C pc Q E := wC_sound' (fun _ _ h => h) h

/-- a loop by its invariant and measure -/
theorem loopF_of {W : (Ex → EP) → EP} {Q : Ex → EP} {E : Env} (I : EP) (m : Env → Nat) (h0 : I E) (h : ∀ E0, I E0 → W (loopK I m E0 Q) E0) : loopF W Q E := ⟨I, m, h0, h⟩

/-- a range by its invariant -/
theorem rfnF_of {f : Nat} {ag : Bool} {sz gs k1 k2 : Nat} {out : List Nat} {Wa Wb : (Ex → EP) → EP} {Q : Ex → EP} {E : Env} {m : Nat} {cs r : List D} (I : Nat → EP) (hm : m * sz = cs.length) (h0 : I 0 (keepE out E))
    (hg : ∀ k E1, I k E1 → lk E1 gs = .clo f [.pt (.sl m cs :: r)]) (hd : ∀ E1, I m E1 → Q .nrm E1)
    (h : ∀ k E1, k < m → I k E1 → ∃ d, ofCells ag sz (cs.drop ((m - 1 - k) * sz)) = some d ∧ d.flat0 = true ∧ Wa (asgK out (I (k + 1)) Wb) (sets E1 [(k1, .int .i64 ((m - 1 - k : Nat) : Int)), (k2, d)])) :
    rfnF f ag sz gs k1 k2 out Wa Wb Q (.clo f [.pt (.sl m cs :: r)]) E := ⟨rfl, hm, I, h0, hg, hd, h⟩

theorem callF_of {C : CT} {f : FuncId} {ds : List D} {dl : List (Nat × D)} {t : Nat} {N : EP} {E : Env} {r : D} (h : C f ds r) (hN : N (sets (st1 E t r) (if r.flat = true then [] else dl))) : callF C f (some ds) dl t N E :=
  ⟨ds, rfl, r, h, hN⟩

/-! evaluation lemmas -/
section ev
variable {t s u : Nat} {N A B : EP} {E : Env} {d : D} {k kx ky : IntKind} {a b : Int} {n m : Nat} {cs : List D} {l l' : List UInt8} {p : Prop} {C : CT} {Q : Ex → EP} {W : (Ex → EP) → EP} {id id' : Nat} {ps : List PO} {r : Env}

theorem wE_nil : wE C [] N E = N E := rfl
theorem wE_none {k : K} : wE C (⟨some t, k, none⟩ :: ps) N E = stepF C k t (wE C ps N) E := rfl
theorem wE_st {k : K} : wE C (⟨none, k, none⟩ :: ps) N E = stepF C k 0 (wE C ps N) E := rfl
theorem wE_some {k : K} {w : Bool} : wE C (⟨some t, k, some (s, w)⟩ :: ps) N E = grdF s w t (lk E s) (stepF C k t (wE C ps N)) (wE C ps N) E := rfl
theorem wC_skip : wC C .skip Q E = Q .nrm E := rfl
theorem wC_bad : wC C .bad Q E = False := rfl
theorem wC_seq {a b : PC} : wC C (.seq a b) Q E = wC C a (seqK (wC C b) Q) E := rfl
theorem wC_reg {ops : List PO} {live : List Nat} : wC C (.reg ops live) Q E = wE C ops (regK live Q) E := rfl
theorem wC_cnd {c : PX} {a b : PC} : wC C (.cnd c a b) Q E = cndF (c.ev (lk E)) (wC C a Q) (wC C b Q) E := rfl
theorem wC_blk {b : PC} : wC C (.blk id b) Q E = wC C b (blkK id Q) E := rfl
theorem wC_loop {b : PC} : wC C (.loop b) Q E = loopF (wC C b) Q E := rfl
theorem wC_exit : wC C (.exit id) Q E = Q (.exit id) E := rfl
theorem wC_ret : wC C .ret Q E = Q .ret E := rfl
theorem wC_rfn {f : Nat} {ag : Bool} {sz gs k1 k2 : Nat} {rs out : List Nat} {asg body : PC} : wC C (.rfn f ag sz gs k1 k2 rs asg body out) Q E = rfnF f ag sz gs k1 k2 out (wC C asg) (wC C body) Q (lk E gs) E := rfl
theorem wC_cus {ws : List Nat} {T : PT} : wC C (.cus ws T) Q E = T.f (Q .nrm) E := rfl
theorem asgK_nrm {out : List Nat} {J : EP} : asgK out J W .nrm E = W (bodK out J) E := rfl
theorem bodK_nrm {out : List Nat} {J : EP} : bodK out J .nrm E = J (keepE out E) := rfl
theorem regK_eq {live : List Nat} : regK live Q E = Q .nrm (keepE live E) := rfl
theorem seqK_nrm : seqK W Q .nrm E = W Q E := rfl
theorem seqK_exit : seqK W Q (.exit id) E = Q (.exit id) E := rfl
theorem seqK_ret : seqK W Q .ret E = Q .ret E := rfl
theorem blkK_nrm : blkK id Q .nrm E = Q .nrm E := rfl
theorem blkK_exit : blkK id Q (.exit id') E = if id' = id then Q .nrm E else Q (.exit id') E := rfl
theorem blkK_ret : blkK id Q .ret E = Q .ret E := rfl
theorem loopK_nrm {I : EP} {m : Env → Nat} {E0 : Env} : loopK I m E0 Q .nrm E = (I E ∧ m E < m E0) := rfl
theorem loopK_exit {I : EP} {m : Env → Nat} {E0 : Env} : loopK I m E0 Q (.exit id) E = Q (.exit id) E := rfl
theorem loopK_ret {I : EP} {m : Env → Nat} {E0 : Env} : loopK I m E0 Q .ret E = Q .ret E := rfl
theorem cndF_t : cndF (.bool true) A B E = A E := by simp [cndF]
theorem cndF_f : cndF (.bool false) A B E = B E := by simp [cndF]
theorem cndF_p : cndF (.bool (dB p)) A B E = ((p → A E) ∧ (¬p → B E)) := by simp only [cndF, dB_iff, dB_not]
theorem grdF_t {w : Bool} : grdF s w t (.bool true) A B E = if w = true then A (st1 E s (.bool true)) else B (st1 (st1 E s (.bool true)) t (.tup [])) := by cases w <;> simp [grdF]
theorem grdF_f {w : Bool} : grdF s w t (.bool false) A B E = if w = true then B (st1 (st1 E s (.bool false)) t (.tup [])) else A (st1 E s (.bool false)) := by cases w <;> simp [grdF]
theorem grdF_s {w : Bool} : grdF s w t (.tup []) A B E = B (st1 E t (.tup [])) := rfl
theorem grdF_pt : grdF s true t (.bool (dB p)) A B E = ((p → A (st1 E s (.bool true))) ∧ (¬p → B (st1 (st1 E s (.bool false)) t (.tup [])))) := by
  simp only [grdF, dB_iff, Bool.not_eq_true', dB_not, Bool.not_true]
theorem grdF_pf : grdF s false t (.bool (dB p)) A B E = ((¬p → A (st1 E s (.bool false))) ∧ (p → B (st1 (st1 E s (.bool true)) t (.tup [])))) := by
  simp only [grdF, dB_not, Bool.not_eq_false', dB_iff, Bool.not_false]

theorem ev_v : PX.ev (lk E) (.v t) = lk E t := rfl
theorem ev_k : PX.ev (lk E) (.k d) = d := rfl
def oev (s : Nat) (d e : D) : D := match d with
  | .al s' => if s' = s then e else .un
  | .own .. | .box .. | .gbox _ => .un
  | d => d
theorem ev_o : PX.ev (lk E) (.o t s) = oev s (lk E t) (lk E s) := by simp only [PX.ev, oev]; cases lk E t <;> rfl
theorem oev_al {e : D} {s' : Nat} : oev s (.al s') e = if s' = s then e else .un := rfl
theorem oev_int {e : D} : oev s (.int k a) e = .int k a := rfl
theorem oev_sl {e : D} : oev s (.sl n cs) e = .sl n cs := rfl
theorem oev_str {e : D} : oev s (.str l) e = .str l := rfl
theorem oev_agg {e : D} : oev s (.agg cs) e = .agg cs := rfl
theorem oev_pt {e : D} : oev s (.pt cs) e = .pt cs := rfl
theorem oev_bool {e : D} {b : Bool} : oev s (.bool b) e = .bool b := rfl

theorem lk_cons {x : Nat} : lk ((x, d) :: r) t = if t = x then d else lk r t := rfl
theorem lk_nil : lk [] t = .un := rfl
theorem st1_cons {x : Nat} {e : D} : st1 ((x, e) :: r) t d = if t = x then (x, d) :: r else (x, e) :: st1 r t d := rfl
theorem st1_nil : st1 [] t d = [(t, d)] := rfl
theorem keepE_cons {live : List Nat} : keepE (t :: live) E = (t, (lk E t).clean) :: keepE live E := rfl
theorem keepE_nil : keepE [] E = [] := rfl

theorem putF_int : putF (.int k a) t N E = N (st1 E t (.int k a)) := by simp [putF, D.isPure]
theorem putF_bool {b : Bool} : putF (.bool b) t N E = N (st1 E t (.bool b)) := by simp [putF, D.isPure]
theorem putF_str : putF (.str l) t N E = N (st1 E t (.str l)) := by simp [putF, D.isPure]
theorem putF_sl : putF (.sl n cs) t N E = N (st1 E t (.sl n cs)) := by simp [putF, D.isPure]
theorem putF_agg : putF (.agg cs) t N E = N (st1 E t (.agg cs)) := by simp [putF, D.isPure]
theorem putF_tup : putF (.tup cs) t N E = N (st1 E t (.tup cs)) := by simp [putF, D.isPure]
theorem putF_pt : putF (.pt cs) t N E = N (st1 E t (.pt cs)) := by simp [putF, D.isPure]
theorem putF_clo {f : FuncId} : putF (.clo f cs) t N E = N (st1 E t (.clo f cs)) := by simp [putF, D.isPure]
theorem putF_err {b : Bool} : putF (.err b) t N E = N (st1 E t (.err b)) := by simp [putF, D.isPure]

theorem atV {E : Env} : PX.at (lk E) (.v t) = (match lk E t with | .box _ _ => some (.own t 0) | .pt cs => some (.imm cs) | _ => none) := rfl
theorem atO {E : Env} : PX.at (lk E) (.o t s) = (match lk E t with
    | .rf s' off => if s' = s then some (.own s off) else none
    | .al s' => if s' = s then (match lk E s with | .box _ _ => some (.own s 0) | _ => none) else none
    | .pt cs => some (.imm cs)
    | _ => none) := rfl

theorem lend_eq {x : PX} : lend (lk E) x = if (x.ev (lk E)).plain.isPure = true then some (x.ev (lk E)).plain else none := by simp [lend]
theorem dulls_nil : dulls (lk E) [] = [] := rfl
theorem dulls_v {xs : List PX} : dulls (lk E) (.v t :: xs) = (t, (lk E t).dull) :: dulls (lk E) xs := rfl
theorem dulls_k {xs : List PX} : dulls (lk E) (.k d :: xs) = dulls (lk E) xs := rfl
theorem dulls_o {xs : List PX} : dulls (lk E) (.o t s :: xs) = (s, (lk E s).dull) :: dulls (lk E) xs := rfl
theorem pickF_t {a b : D} : pickF (.bool true) a b t N E = putF a t N E := by simp [pickF]
theorem pickF_f {a b : D} : pickF (.bool false) a b t N E = putF b t N E := by simp [pickF]
theorem pickF_p {a b : D} : pickF (.bool (dB p)) a b t N E = ((p → putF a t N E) ∧ (¬p → putF b t N E)) := by simp only [pickF, dB_iff, dB_not]

theorem retQ_nrm {rs : List RV} : retQ rs d .nrm E = (resD E rs = some d) := by simp [retQ]
theorem retQ_ret {rs : List RV} : retQ rs d .ret E = (resD E rs = some d) := by simp [retQ]
def resT (d : D) : Option D := match d with
  | .own wr e m cs => some (.own wr e m cs)
  | d => if d.isPure then some d else none
theorem resD_t : resD E [.t s] = resT (lk E s) := by
  simp only [resD, resT]
  cases lk E s <;> rfl
theorem resD_c {ag : Bool} : resD E [.c s ag m] = rvD E (.c s ag m) := rfl
theorem resD_two {x y : RV} {rs : List RV} : resD E (x :: y :: rs) = (optAll ((x :: y :: rs).map (rvD E))).map .tup := by
  cases x <;> rfl
end ev

end Go.Pi
