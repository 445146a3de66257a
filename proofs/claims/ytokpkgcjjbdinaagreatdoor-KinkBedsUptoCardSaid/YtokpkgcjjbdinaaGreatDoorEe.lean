/-
  strings.Builder: LAID BY HAND. Own work (printed by a small program).
-/
import Derived.Test.YtokpkgcjjbdinaaGreatDoorEc
import Derived.Test.YtokpkgcjjbdinaaGreatDoorEa
set_option linter.unusedVariables false
set_option linter.unusedSimpArgs false
namespace Go.Proofs
open Go Go.Shelf

def Tryz.bld_ren : Go.Shelf.Ren := ⟨fun | 240 => 157 | 276 => 186 | 167 => 138 | 166 => 141 | 169 => 142 | n => n, fun | 70 => 191 | 72 => 194 | 37 => 192 | 164 => 234 | 75 => 185 | 20 => 20 | 127 => 209 | 80 => 200 | n => n, fun n => n⟩
theorem Tryz.lays167_b : Go.Proofs.Lays.n167 Tryz.prog Tryz.bld_ren := {
  mixed := by kernel_rfl
  f167 := Tryz.func138.trans (congrArg some (by kernel_rfl))
  f240 := Tryz.func157.trans (congrArg some (by kernel_rfl))
  f276 := Tryz.func186.trans (congrArg some (by kernel_rfl))
  t0 := Tryz.underlying0
  a0 := Tryz.isAgg0
  z0 := Tryz.sizeOf0
  v0 := Tryz.zeroValue0
  t4 := Tryz.underlying4
  a4 := Tryz.isAgg4
  z4 := Tryz.sizeOf4
  v4 := Tryz.zeroValue4
  t5 := Tryz.underlying5
  a5 := Tryz.isAgg5
  z5 := Tryz.sizeOf5
  v5 := Tryz.zeroValue5
  t9 := Tryz.underlying9
  a9 := Tryz.isAgg9
  z9 := Tryz.sizeOf9
  v9 := Tryz.zeroValue9
  t20 := Tryz.underlying20
  a20 := Tryz.isAgg20
  z20 := Tryz.sizeOf20
  v20 := Tryz.zeroValue20
  t37 := Tryz.underlying192
  a37 := Tryz.isAgg192
  z37 := Tryz.sizeOf192
  v37 := Tryz.zeroValue192
  t70 := Tryz.underlying191
  a70 := Tryz.isAgg191
  z70 := Tryz.sizeOf191
  v70 := Tryz.zeroValue191
  t72 := Tryz.underlying194
  a72 := Tryz.isAgg194
  z72 := Tryz.sizeOf194
  v72 := Tryz.zeroValue194
  t75 := Tryz.underlying185
  a75 := Tryz.isAgg185
  z75 := Tryz.sizeOf185
  v75 := Tryz.zeroValue185
  t164 := Tryz.underlying234
  a164 := Tryz.isAgg234
  z164 := Tryz.sizeOf234
  v164 := Tryz.zeroValue234 }
theorem Tryz.lays166_b : Go.Proofs.Lays.n166 Tryz.prog Tryz.bld_ren := {
  mixed := by kernel_rfl
  f166 := Tryz.func141.trans (congrArg some (by kernel_rfl))
  f240 := Tryz.func157.trans (congrArg some (by kernel_rfl))
  f276 := Tryz.func186.trans (congrArg some (by kernel_rfl))
  t0 := Tryz.underlying0
  a0 := Tryz.isAgg0
  z0 := Tryz.sizeOf0
  v0 := Tryz.zeroValue0
  t3 := Tryz.underlying3
  a3 := Tryz.isAgg3
  z3 := Tryz.sizeOf3
  v3 := Tryz.zeroValue3
  t4 := Tryz.underlying4
  a4 := Tryz.isAgg4
  z4 := Tryz.sizeOf4
  v4 := Tryz.zeroValue4
  t9 := Tryz.underlying9
  a9 := Tryz.isAgg9
  z9 := Tryz.sizeOf9
  v9 := Tryz.zeroValue9
  t20 := Tryz.underlying20
  a20 := Tryz.isAgg20
  z20 := Tryz.sizeOf20
  v20 := Tryz.zeroValue20
  t37 := Tryz.underlying192
  a37 := Tryz.isAgg192
  z37 := Tryz.sizeOf192
  v37 := Tryz.zeroValue192
  t70 := Tryz.underlying191
  a70 := Tryz.isAgg191
  z70 := Tryz.sizeOf191
  v70 := Tryz.zeroValue191
  t72 := Tryz.underlying194
  a72 := Tryz.isAgg194
  z72 := Tryz.sizeOf194
  v72 := Tryz.zeroValue194
  t75 := Tryz.underlying185
  a75 := Tryz.isAgg185
  z75 := Tryz.sizeOf185
  v75 := Tryz.zeroValue185
  t164 := Tryz.underlying234
  a164 := Tryz.isAgg234
  z164 := Tryz.sizeOf234
  v164 := Tryz.zeroValue234 }
theorem Tryz.lays169_b : Go.Proofs.Lays.n169 Tryz.prog Tryz.bld_ren := {
  mixed := by kernel_rfl
  f169 := Tryz.func142.trans (congrArg some (by kernel_rfl))
  t0 := Tryz.underlying0
  a0 := Tryz.isAgg0
  z0 := Tryz.sizeOf0
  v0 := Tryz.zeroValue0
  t3 := Tryz.underlying3
  a3 := Tryz.isAgg3
  z3 := Tryz.sizeOf3
  v3 := Tryz.zeroValue3
  t9 := Tryz.underlying9
  a9 := Tryz.isAgg9
  z9 := Tryz.sizeOf9
  v9 := Tryz.zeroValue9
  t37 := Tryz.underlying192
  a37 := Tryz.isAgg192
  z37 := Tryz.sizeOf192
  v37 := Tryz.zeroValue192
  t70 := Tryz.underlying191
  a70 := Tryz.isAgg191
  z70 := Tryz.sizeOf191
  v70 := Tryz.zeroValue191
  t72 := Tryz.underlying194
  a72 := Tryz.isAgg194
  z72 := Tryz.sizeOf194
  v72 := Tryz.zeroValue194
  t127 := Tryz.underlying209
  a127 := Tryz.isAgg209
  z127 := Tryz.sizeOf209
  v127 := Tryz.zeroValue209 }
theorem Tryz.bldX : Builder.Extra Tryz.prog Tryz.bld_ren where
  sizeBuilder := by kernel_rfl
  liesBuilder := by kernel_rfl
  t5 := Tryz.underlying5
  a5 := Tryz.isAgg5
  z5 := Tryz.sizeOf5
  v5 := Tryz.zeroValue5
  infoByte := by kernel_rfl
  cellsByte := by kernel_rfl
  sizeByte := by kernel_rfl
  neB5 := by decide
end Go.Proofs

/-
  PLANE GEOMETRY over the rational numbers: segments. Own work.
-/
namespace Go.Ge

abbrev Pt := Rat × Rat
/-- the doubled area of a triangle -/
def ar (a b c : Pt) : Rat := (b.1 - a.1) * (c.2 - a.2) - (b.2 - a.2) * (c.1 - a.1)
/-- the order of points -/
def le (a b : Pt) : Prop := a.1 < b.1 ∨ (a.1 = b.1 ∧ a.2 ≤ b.2)
theorem le_refl (a : Pt) : le a a := .inr ⟨rfl, Rat.le_refl⟩
theorem le_total (a b : Pt) : le a b ∨ le b a := by unfold le; grind
theorem le_trans {a b c : Pt} (h : le a b) (k : le b c) : le a c := by unfold le at *; grind
theorem le_antisymm {a b : Pt} (h : le a b) (k : le b a) : a = b := by
  have h1 : a.1 = b.1 := by unfold le at *; grind
  have h2 : a.2 = b.2 := by unfold le at *; grind
  exact Prod.ext h1 h2
/-- a place on a segment -/
def btw (a b p : Pt) : Prop := ar a b p = 0 ∧ (le a p ∧ le p b ∨ le b p ∧ le p a)
def onS (a b p : Pt) : Prop := ∃ t : Rat, 0 ≤ t ∧ t ≤ 1 ∧ p.1 = a.1 + t * (b.1 - a.1) ∧ p.2 = a.2 + t * (b.2 - a.2)
end Go.Ge

/-
  PLANE GEOMETRY: how two segments meet: two ways to find it. Own work.
-/
namespace Go.Ge

instance (a b : Pt) : Decidable (le a b) := inferInstanceAs (Decidable (a.1 < b.1 ∨ (a.1 = b.1 ∧ a.2 ≤ b.2)))
instance (a b p : Pt) : Decidable (btw a b p) := inferInstanceAs (Decidable (ar a b p = 0 ∧ (le a p ∧ le p b ∨ le b p ∧ le p a)))
/-- how two segments meet -/
inductive Mt where
  | apart
  | touch (p : Pt)
  | over
def mn (a b : Pt) : Pt := if le a b then a else b
def mx (a b : Pt) : Pt := if le a b then b else a
/-- the program's, on one line -/
def colP (a b c d : Pt) : Mt :=
  let low := mx (mn a b) (mn c d)
  let high := mn (mx a b) (mx c d)
  if low = high then .touch low else if le low high then .over else .apart
/-- the place at a share of the way -/
def atK (c d : Pt) (p q : Rat) : Pt := (c.1 + p / (p - q) * (d.1 - c.1), c.2 + p / (p - q) * (d.2 - c.2))
/-- the program's -/
def meetP (a b c d : Pt) : Mt :=
  if ar a b c = 0 ∧ ar a b d = 0 then colP a b c d
  else if 0 < ar a b c * ar a b d ∨ 0 < ar c d a * ar c d b then .apart
  else .touch (atK c d (ar a b c) (ar a b d))
/-- the law's: the ends that both have -/
def onB (a b c d : Pt) (l : List Pt) : List Pt := l.foldl (fun o x => if btw a b x ∧ btw c d x then (if x ∈ o then o else o ++ [x]) else o) []
def meetL (a b c d : Pt) : Mt :=
  match onB a b c d [a, b, c, d] with
  | [x] => .touch x
  | _ :: _ :: _ => .over
  | [] => if 0 ≤ ar c d a * ar c d b ∨ 0 ≤ ar a b c * ar a b d then .apart else .touch (atK a b (ar c d a) (ar c d b))
end Go.Ge

/-
  FOLDS WITH STRAIGHT LIMBS: the plane figures as functions of rational numbers. Own work.
-/
namespace Go.Kk
open Go.Ge

def pl (p d : Pt) (k : Rat) : Pt := (p.1 + k * d.1, p.2 + k * d.2)
def mn (p q : Pt) : Pt := pl p q (-1)
def dt (p q : Pt) : Rat := p.1 * q.1 + p.2 * q.2
def dirK (t : Rat) : Pt := ((1 - t * t) / (1 + t * t), (t + t) / (1 + t * t))
def upK (d : Pt) : Pt := (-d.2, d.1)
def nrm (t : Rat) : Pt := upK (dirK t)
def avg (n m : Pt) : Pt := pl (0, 0) (pl n m 1) (1 / (1 + dt n m))

/-- a profile: how many domains, where it begins, the half-tangents, the lengths -/
structure Pf where
  n : Nat
  s : Pt
  t : Nat → Rat
  l : Nat → Rat

/-- a domain: along, normal, where it begins, its length -/
structure Dm where
  a : Pt
  n : Pt
  f : Pt
  l : Rat

/-- where the k-th domain begins -/
def Pf.at' (p : Pf) : Nat → Pt
  | 0 => p.s
  | k + 1 => pl (p.at' k) (dirK (p.t k)) (p.l k)
def Pf.dm (p : Pf) (k : Nat) : Dm := ⟨dirK (p.t k), nrm (p.t k), p.at' k, p.l k⟩
/-- how the k-th end moves with the height -/
def Pf.ax (p : Pf) (k : Nat) : Pt := if k = 0 then nrm (p.t 0) else if k = p.n then nrm (p.t (k - 1)) else avg (nrm (p.t (k - 1))) (nrm (p.t k))
/-- how the length of a domain changes with the height -/
def Pf.gr (p : Pf) (k : Nat) : Rat := dt (dirK (p.t k)) (mn (p.ax (k + 1)) (p.ax k))
def Pf.ln (p : Pf) (h : Rat) (k : Nat) : Rat := p.l k + p.gr k * h
def Pf.bd (p : Pf) (h : Rat) (k : Nat) : Pt := pl (p.at' k) (p.ax k) h

theorem sq1_ne (t : Rat) : (1 : Rat) + t * t ≠ 0 := by
  have h : (0 : Rat) ≤ t * t := by
    rcases Rat.le_total (a := 0) (b := t) with h | h
    · exact Rat.mul_nonneg h h
    · have := Rat.mul_nonneg (a := -t) (b := -t) (by grind) (by grind)
      grind
  grind

end Go.Kk

/-
  FOLDS WITH STRAIGHT LIMBS: directions are of length 1; how lengths change. Own work.
-/
namespace Go.Kk
open Go.Ge

theorem div_eq {a b c : Rat} (hb : b ≠ 0) (h : a = c * b) : a / b = c := by
  rw [h, Rat.div_def, Rat.mul_assoc, Rat.mul_inv_cancel _ hb, Rat.mul_one]
theorem div_mul {a b : Rat} (hb : b ≠ 0) : a / b * b = a := by
  rw [Rat.div_def, Rat.mul_assoc, Rat.inv_mul_cancel _ hb, Rat.mul_one]

/-- cosine and sine -/
theorem dir_eq (t : Rat) : (dirK t).1 * (1 + t * t) = 1 - t * t ∧ (dirK t).2 * (1 + t * t) = t + t := ⟨div_mul (sq1_ne t), div_mul (sq1_ne t)⟩
theorem dir_one (t : Rat) : dt (dirK t) (dirK t) = 1 := by
  obtain ⟨h1, h2⟩ := dir_eq t
  have h3 := sq1_ne t
  unfold dt
  generalize (dirK t).1 = c at *
  generalize (dirK t).2 = s at *
  grind
theorem nrm_dir (t : Rat) : dt (dirK t) (nrm t) = 0 := by unfold dt nrm upK; grind
theorem nrm_one (t : Rat) : dt (nrm t) (nrm t) = 1 := by
  have := dir_one t
  unfold dt nrm upK at *; grind
/-- the tangent of half of the difference -/
def tanH (t u : Rat) : Rat := (t - u) / (1 + t * u)
theorem dot_nn {t u : Rat} (h : 1 + t * u ≠ 0) : 1 + dt (nrm t) (nrm u) ≠ 0 ∧ (1 + dt (nrm t) (nrm u)) * ((1 + t * t) * (1 + u * u)) = 2 * ((1 + t * u) * (1 + t * u)) := by
  obtain ⟨h1, h2⟩ := dir_eq t
  obtain ⟨h3, h4⟩ := dir_eq u
  have h5 := sq1_ne t
  have h6 := sq1_ne u
  have e : (1 + dt (nrm t) (nrm u)) * ((1 + t * t) * (1 + u * u)) = 2 * ((1 + t * u) * (1 + t * u)) := by
    unfold dt nrm upK
    generalize (dirK t).1 = c at *
    generalize (dirK t).2 = s at *
    generalize (dirK u).1 = c' at *
    generalize (dirK u).2 = s' at *
    grind
  refine ⟨fun z => ?_, e⟩
  rw [z, Rat.zero_mul] at e
  have : (1 + t * u) * (1 + t * u) = 0 := by grind
  rcases Rat.mul_eq_zero.1 this with h7 | h7 <;> exact h h7
theorem dot_dn {t u : Rat} : dt (dirK t) (nrm u) * ((1 + t * t) * (1 + u * u)) = 2 * ((t - u) * (1 + t * u)) := by
  obtain ⟨h1, h2⟩ := dir_eq t
  obtain ⟨h3, h4⟩ := dir_eq u
  unfold dt nrm upK
  generalize (dirK t).1 = c at *
  generalize (dirK t).2 = s at *
  generalize (dirK u).1 = c' at *
  generalize (dirK u).2 = s' at *
  grind
theorem dt_avg (d n m : Pt) : dt d (avg n m) = (dt d n + dt d m) * (1 / (1 + dt n m)) := by
  unfold avg pl dt; grind
theorem dt_pl (d p q : Pt) (k : Rat) : dt d (pl p q k) = dt d p + k * dt d q := by unfold dt pl; grind
theorem dt_mn (d p q : Pt) : dt d (mn p q) = dt d p - dt d q := by unfold mn; rw [dt_pl]; grind
theorem dt_comm (p q : Pt) : dt p q = dt q p := by unfold dt; grind
/-- what the normals' mean does along a limb -/
theorem dot_avg {t u : Rat} (h : 1 + t * u ≠ 0) : dt (dirK t) (avg (nrm t) (nrm u)) = tanH t u := by
  rw [dt_avg, nrm_dir]
  obtain ⟨h1, h2⟩ := dot_nn h
  have h3 := dot_dn (t := t) (u := u)
  have h5 := sq1_ne t
  have h6 := sq1_ne u
  unfold tanH
  generalize dt (dirK t) (nrm u) = x at *
  generalize dt (nrm t) (nrm u) = y at *
  symm
  refine div_eq h ?_
  have h7 : (1 / (1 + y)) * (1 + y) = 1 := div_mul h1
  generalize 1 / (1 + y) = z at *
  generalize 1 + t * t = a at *
  generalize 1 + u * u = b at *
  generalize 1 + t * u = c at *
  generalize 1 + y = w at *
  generalize t - u = e at *
  have h8 : a * b ≠ 0 := fun k => by rcases Rat.mul_eq_zero.1 k with k | k <;> contradiction
  grind
theorem dot_avg' {t u : Rat} (h : 1 + t * u ≠ 0) : dt (dirK t) (avg (nrm u) (nrm t)) = tanH t u := by
  rw [← dot_avg h]
  unfold avg pl dt
  grind
theorem ne_tan {t u : Rat} (h1 : -1 < t ∧ t < 1) (h2 : -1 < u ∧ u < 1) : 1 + t * u ≠ 0 := by
  intro h
  have a1 : 0 < (1 + t) * (1 + u) := Rat.mul_pos (by grind) (by grind)
  have a2 : 0 < (1 - t) * (1 - u) := Rat.mul_pos (by grind) (by grind)
  grind

/-- the tangents on both sides -/
theorem gr_eq (p : Pf) (hok : ∀ k, k < p.n → -1 < p.t k ∧ p.t k < 1) {k : Nat} (hk : k < p.n) : p.gr k = (if k + 1 = p.n then 0 else tanH (p.t k) (p.t (k + 1))) - (if k = 0 then 0 else tanH (p.t k) (p.t (k - 1))) := by
  unfold Pf.gr
  rw [dt_mn]
  congr 1
  · unfold Pf.ax
    rw [if_neg (by omega)]
    split
    · rw [Nat.add_sub_cancel]; exact nrm_dir _
    · rename_i h; rw [Nat.add_sub_cancel]; exact dot_avg (ne_tan (hok k hk) (hok (k + 1) (by omega)))
  · unfold Pf.ax
    split
    · rename_i h; subst h; exact nrm_dir _
    · rename_i h; rw [if_neg (by omega)]; exact dot_avg' (ne_tan (hok k hk) (hok (k - 1) (by omega)))

/-- the length of a bed in a domain is that between its points -/
theorem ln_eq (p : Pf) (h : Rat) (k : Nat) : dt (dirK (p.t k)) (mn (p.bd h (k + 1)) (p.bd h k)) = p.ln h k := by
  unfold Pf.ln Pf.gr Pf.bd
  rw [dt_mn, dt_mn, dt_pl, dt_pl]
  show dt (dirK (p.t k)) (pl (p.at' k) (dirK (p.t k)) (p.l k)) + _ - _ = _
  rw [dt_pl, dir_one]
  grind

/-- all domains have a length at the height -/
def Pf.win (p : Pf) (h : Rat) : Bool := decide (∀ k, k < p.n → 0 < p.ln h k)
/-- a sum from 0 on -/
def sumN (f : Nat → Rat) : Nat → Rat
  | 0 => 0
  | k + 1 => sumN f k + f k

/-- what is left of a way behind k domains -/
def Pf.rst (p : Pf) (h a : Rat) : Nat → Rat
  | 0 => a
  | k + 1 => p.rst h a k - p.ln h k
def Pf.fpt (p : Pf) (h a : Rat) (k : Nat) : Pt := pl (p.bd h k) (dirK (p.t k)) (p.rst h a k)
def Pf.fgo (p : Pf) (h a : Rat) : Nat → Nat → Option Pt
  | 0, _ => none
  | m + 1, k => if p.rst h a k ≤ p.ln h k then some (p.fpt h a k) else p.fgo h a m (k + 1)
/-- the height of a place over a domain's bed of the height 0; how far it is along -/
def Pf.hK (p : Pf) (q : Pt) (k : Nat) : Rat := dt (nrm (p.t k)) (mn q (p.at' k))
def Pf.xK (p : Pf) (q : Pt) (k : Nat) : Rat := dt (dirK (p.t k)) (mn q (p.bd (p.hK q k) k))
def Pf.inK (p : Pf) (q : Pt) (k : Nat) : Bool := p.win (p.hK q k) && decide (0 ≤ p.xK q k ∧ p.xK q k ≤ p.ln (p.hK q k) k)
def Pf.ugo (p : Pf) (q : Pt) : Nat → Nat → Option Pt
  | 0, _ => none
  | m + 1, k => if p.inK q k = true then some (sumN (p.ln (p.hK q k)) k + p.xK q k, p.hK q k) else p.ugo q m (k + 1)

end Go.Kk
