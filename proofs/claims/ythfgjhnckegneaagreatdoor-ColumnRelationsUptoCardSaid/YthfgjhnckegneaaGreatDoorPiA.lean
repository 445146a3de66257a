/-
  DATA AND HOW A VALUE REPRESENTS IT. Own work: a pure reading of the model's values: slices as lists of cells, strings as lists of bytes.
  'Rep S w d v': in the world w the value v reads as the data d, and every cell that is read lies in the set S of cells that nobody writes any more.
-/
import Derived.WalkKit
namespace Go.Pi
open Go

inductive D where
  | un
  | bool (b : Bool)
  | int (k : IntKind) (n : Int)
  | str (s : List UInt8)
  | agg (cs : List D)
  | tup (vs : List D)
  | sl (n : Nat) (cs : List D)
  | pt (cs : List D)
  | clo (f : FuncId) (caps : List D)
  | err (isNil : Bool)
  | own (w : Bool) (e : TypeId) (n : Nat) (cs : List D)
  | box (w : Bool) (cs : List D)
  | al (s : Nat)
  | gbox (G : Nat)
  | rf (s off : Nat)
  deriving Inhabited

def D.isPure : D → Bool
  | .un | .own .. | .box .. | .al _ | .rf .. | .gbox _ => false
  | _ => true

/-- one cell of memory -/
def D.one : D → Bool
  | .bool _ | .int .. | .str _ | .sl .. | .pt _ | .clo .. | .err _ => true
  | _ => false

def D.cells : D → List D
  | .agg cs => cs
  | d => [d]

/-- the cells of a value in memory from (b, off) on, all of them in S -/
def Row (S : Nat → Nat → Prop) (w : World) (b off : Nat) (vs : List Value) : Prop :=
  ∀ i v, vs[i]? = some v → S b (off + i) ∧ w.cell? ⟨b, off + i, none⟩ = some v

inductive Rep (S : Nat → Nat → Prop) (w : World) : D → Value → Prop where
  | bool (b : Bool) : Rep S w (.bool b) (.bool b)
  | int (k : IntKind) (n : Int) : Rep S w (.int k n) (.int k n)
  | str (l : List UInt8) (h : l.length ≤ maxLen) : Rep S w (.str l) (.string ⟨l.toArray⟩)
  | agg (ds : List D) (vs : List Value) (hl : ds.length = vs.length) (h1 : ∀ d ∈ ds, d.one = true)
      (h : ∀ (i : Nat) (d : D) (v : Value), ds[i]? = some d → vs[i]? = some v → Rep S w d v) : Rep S w (.agg ds) (.agg vs.toArray)
  | tup (ds : List D) (vs : List Value) (hl : ds.length = vs.length)
      (h : ∀ (i : Nat) (d : D) (v : Value), ds[i]? = some d → vs[i]? = some v → Rep S w d v) : Rep S w (.tup ds) (.tuple vs.toArray)
  | sl0 (a : Option Addr) (cap : Nat) (hc : cap ≤ maxLen) : Rep S w (.sl 0 []) (.slice a 0 cap)
  | slN : Rep S w (.sl 0 [.un]) (.slice none 0 0)
  | sl (n : Nat) (ds : List D) (b off cap : Nat) (vs : List Value) (hl : ds.length = vs.length) (h1 : ∀ d ∈ ds, d.one = true) (hn : n ≤ cap) (hc : cap ≤ maxLen) (hr : Row S w b off vs)
      (h : ∀ (i : Nat) (d : D) (v : Value), ds[i]? = some d → vs[i]? = some v → Rep S w d v) : Rep S w (.sl n ds) (.slice (some ⟨b, off, none⟩) n cap)
  | pt (ds : List D) (b off : Nat) (vs : List Value) (hl : ds.length = vs.length) (h1 : ∀ d ∈ ds, d.one = true) (hr : Row S w b off vs)
      (h : ∀ (i : Nat) (d : D) (v : Value), ds[i]? = some d → vs[i]? = some v → Rep S w d v) : Rep S w (.pt ds) (.pointer (some ⟨b, off, none⟩))
  | clo (f : FuncId) (ds : List D) (vs : List Value) (hl : ds.length = vs.length)
      (h : ∀ (i : Nat) (d : D) (v : Value), ds[i]? = some d → vs[i]? = some v → Rep S w d v) : Rep S w (.clo f ds) (.func (.func f) #[] vs.toArray)
  | errN : Rep S w (.err true) .nilIface
  | errS (t : TypeId) (x : Value) : Rep S w (.err false) (.iface t x)

/-- the list of data is represented by the list of values -/
def Reps (S : Nat → Nat → Prop) (w : World) (ds : List D) (vs : List Value) : Prop :=
  ds.length = vs.length ∧ ∀ (i : Nat) (d : D) (v : Value), ds[i]? = some d → vs[i]? = some v → Rep S w d v

theorem Row.mono {S S' : Nat → Nat → Prop} {w w' : World} {b off : Nat} {vs : List Value} (h : Row S w b off vs)
    (hS : ∀ b o, S b o → S' b o) (hw : ∀ b o, S b o → w'.cell? ⟨b, o, none⟩ = w.cell? ⟨b, o, none⟩) : Row S' w' b off vs :=
  fun i v hi => ⟨hS _ _ (h i v hi).1, (hw _ _ (h i v hi).1).trans (h i v hi).2⟩

theorem Rep.mono {S S' : Nat → Nat → Prop} {w w' : World} (hS : ∀ b o, S b o → S' b o) (hw : ∀ b o, S b o → w'.cell? ⟨b, o, none⟩ = w.cell? ⟨b, o, none⟩)
    {d : D} {v : Value} (h : Rep S w d v) : Rep S' w' d v := by
  induction h with
  | bool b => exact .bool b
  | int k n => exact .int k n
  | str l h => exact .str l h
  | agg ds vs hl h1 h ih => exact .agg ds vs hl h1 ih
  | tup ds vs hl h ih => exact .tup ds vs hl ih
  | sl0 a cap hc => exact .sl0 a cap hc
  | slN => exact .slN
  | sl n ds b off cap vs hl h1 hn hc hr h ih => exact .sl n ds b off cap vs hl h1 hn hc (hr.mono hS hw) ih
  | pt ds b off vs hl h1 hr h ih => exact .pt ds b off vs hl h1 (hr.mono hS hw) ih
  | clo f ds vs hl h ih => exact .clo f ds vs hl ih
  | errN => exact .errN
  | errS t x => exact .errS t x

theorem Reps.mono {S S' : Nat → Nat → Prop} {w w' : World} (hS : ∀ b o, S b o → S' b o) (hw : ∀ b o, S b o → w'.cell? ⟨b, o, none⟩ = w.cell? ⟨b, o, none⟩)
    {ds : List D} {vs : List Value} (h : Reps S w ds vs) : Reps S' w' ds vs := ⟨h.1, fun i d v hd hv => (h.2 i d v hd hv).mono hS hw⟩

theorem Rep.pure {S : Nat → Nat → Prop} {w : World} {d : D} {v : Value} (h : Rep S w d v) : d.isPure = true := by cases h <;> rfl

theorem Rep.oneCell {S : Nat → Nat → Prop} {w : World} {d : D} {v : Value} (h : Rep S w d v) (h1 : d.one = true) : v.oneCell' = true := by
  cases h <;> first | rfl | simp [D.one] at h1

theorem Rep.one_of {S : Nat → Nat → Prop} {w : World} {d : D} {v : Value} (h : Rep S w d v) (h1 : d.one = true) : v.cells = #[v] := by
  cases h <;> first | rfl | simp [D.one] at h1

theorem Reps.nil {S : Nat → Nat → Prop} {w : World} : Reps S w [] [] := ⟨rfl, fun i d v h => by simp at h⟩

theorem Reps.cons {S : Nat → Nat → Prop} {w : World} {d : D} {v : Value} {ds : List D} {vs : List Value} (h : Rep S w d v) (hs : Reps S w ds vs) : Reps S w (d :: ds) (v :: vs) := by
  refine ⟨by simp [hs.1], fun i e u he hu => ?_⟩
  cases i with
  | zero => simp at he hu; subst he; subst hu; exact h
  | succ i => exact hs.2 i e u (by simpa using he) (by simpa using hu)

theorem Reps.head {S : Nat → Nat → Prop} {w : World} {d : D} {v : Value} {ds : List D} {vs : List Value} (h : Reps S w (d :: ds) (v :: vs)) : Rep S w d v := h.2 0 d v rfl rfl
theorem Reps.tail {S : Nat → Nat → Prop} {w : World} {d : D} {v : Value} {ds : List D} {vs : List Value} (h : Reps S w (d :: ds) (v :: vs)) : Reps S w ds vs :=
  ⟨by simpa using h.1, fun i e u he hu => h.2 (i + 1) e u (by simpa using he) (by simpa using hu)⟩

theorem Reps.app {S : Nat → Nat → Prop} {w : World} {ds es : List D} {vs us : List Value} (h : Reps S w ds vs) (k : Reps S w es us) : Reps S w (ds ++ es) (vs ++ us) := by
  refine ⟨by simp [h.1, k.1], fun i e u he hu => ?_⟩
  by_cases hi : i < ds.length
  · rw [List.getElem?_append_left hi] at he
    rw [List.getElem?_append_left (by rw [← h.1]; exact hi)] at hu
    exact h.2 i e u he hu
  · rw [List.getElem?_append_right (by omega)] at he
    rw [List.getElem?_append_right (by rw [← h.1]; omega)] at hu
    rw [← h.1] at hu
    exact k.2 _ e u he hu

theorem Reps.take {S : Nat → Nat → Prop} {w : World} {ds : List D} {vs : List Value} (h : Reps S w ds vs) (n : Nat) : Reps S w (ds.take n) (vs.take n) := by
  refine ⟨by simp [h.1], fun i e u he hu => ?_⟩
  rw [List.getElem?_take] at he hu
  split at he
  · rename_i hi; rw [if_pos hi] at hu; exact h.2 i e u he hu
  · cases he

theorem Reps.drop {S : Nat → Nat → Prop} {w : World} {ds : List D} {vs : List Value} (h : Reps S w ds vs) (n : Nat) : Reps S w (ds.drop n) (vs.drop n) := by
  refine ⟨by simp [h.1], fun i e u he hu => ?_⟩
  rw [List.getElem?_drop] at he hu
  exact h.2 _ e u he hu

theorem Reps.get {S : Nat → Nat → Prop} {w : World} {ds : List D} {vs : List Value} (h : Reps S w ds vs) {i : Nat} {d : D} (hd : ds[i]? = some d) : ∃ v, vs[i]? = some v ∧ Rep S w d v := by
  have hi : i < vs.length := by rw [← h.1]; exact (List.getElem?_eq_some_iff.1 hd).1
  exact ⟨vs[i], List.getElem?_eq_getElem hi, h.2 i d _ hd (List.getElem?_eq_getElem hi)⟩

theorem Reps.set {S : Nat → Nat → Prop} {w : World} {ds : List D} {vs : List Value} (h : Reps S w ds vs) (i : Nat) {d : D} {v : Value} (hr : Rep S w d v) : Reps S w (ds.set i d) (vs.set i v) := by
  refine ⟨by simp [h.1], fun j e u he hu => ?_⟩
  rw [List.getElem?_set] at he hu
  by_cases hij : i = j
  · subst hij
    simp only [if_true] at he hu
    split at he
    · rw [if_pos (by rw [← h.1]; assumption)] at hu
      cases he; cases hu; exact hr
    · cases he
  · rw [if_neg hij] at he hu
    exact h.2 j e u he hu

/-- the cells of a value -/
theorem Rep.cellsReps {S : Nat → Nat → Prop} {w : World} {d : D} {v : Value} (h : Rep S w d v) (hc : d.one = true ∨ ∃ cs, d = .agg cs) :
    Reps S w d.cells v.cells.toList ∧ (∀ x ∈ d.cells, x.one = true) := by
  rcases hc with h1 | ⟨cs, rfl⟩
  · have hd : d.cells = [d] := by cases d <;> first | rfl | simp [D.one] at h1
    rw [hd, h.one_of h1]
    exact ⟨.cons h .nil, by simpa using h1⟩
  · cases h with
    | agg ds vs hl h1 h => exact ⟨⟨hl, h⟩, h1⟩

theorem Row.take {S : Nat → Nat → Prop} {w : World} {b off : Nat} {vs : List Value} (h : Row S w b off vs) (n : Nat) : Row S w b off (vs.take n) := by
  intro i v hi
  rw [List.getElem?_take] at hi
  split at hi
  · exact h i v hi
  · cases hi

theorem Row.drop {S : Nat → Nat → Prop} {w : World} {b off : Nat} {vs : List Value} (h : Row S w b off vs) (n : Nat) : Row S w b (off + n) (vs.drop n) := by
  intro i v hi
  rw [List.getElem?_drop] at hi
  have := h (n + i) v hi
  rwa [← Nat.add_assoc] at this

end Go.Pi
