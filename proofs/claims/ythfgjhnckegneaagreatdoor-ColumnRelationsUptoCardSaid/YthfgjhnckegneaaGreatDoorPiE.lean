/-
  OPERANDS; A SLOT GETS A PLAIN VALUE. Own work.
-/
import Derived.Test.YthfgjhnckegneaaGreatDoorPiD
namespace Go.Pi
open Go Go.RowKit

variable {P : Program} {n : Nz} {S0 S : Nat → Nat → Prop} {w0 w : World} {O : Nat → Option Nat} {g : G} {tm : Array Value}

def constOk : Value → D → Bool
  | .bool b, .bool b' => b == b'
  | .int k m, .int k' m' => k == k' && m == m'
  | .string s, .str l => s.data.toList == l && decide (l.length ≤ maxLen)
  | .slice none 0 0, .sl 0 [] => true
  | .slice none 0 0, .sl 0 [.un] => true
  | .nilIface, .err b => b
  | _, _ => false

theorem constOk_rep {v : Value} {d : D} (h : constOk v d = true) : Rep S w d v := by
  unfold constOk at h
  split at h
  · simp at h; subst h; exact .bool _
  · simp at h; obtain ⟨rfl, rfl⟩ := h; exact .int _ _
  · rename_i s l
    simp at h
    obtain ⟨h1, h2⟩ := h
    subst h1
    have : (⟨s.data.toList.toArray⟩ : ByteArray) = s := by simp
    have r := Rep.str (S := S) (w := w) s.data.toList (by simpa using h2)
    rwa [this] at r
  · exact .sl0 _ _ (Nat.zero_le _)
  · exact .slN
  · subst h; exact .errN
  · cases h

def chkX : Operand → PX → Bool
  | .tmp t, .v t' => t == t' && decide (t < GB)
  | .tmp t, .o t' _ => t == t' && decide (t < GB)
  | .const v, .k d => constOk v d
  | .func f, .k (.clo f' []) => f == f'
  | _, _ => false

/-- the value of an operand -/
def rho (tm : Array Value) : Operand → Value
  | .tmp t => tm.getD t undef
  | .const v => v
  | .global g => .pointer (some ⟨g, 0, none⟩)
  | .func f => .func (.func f) #[] #[]

theorem eval_eq (a : Act) : a.eval = rho a.tmps := by funext x; cases x <;> rfl

theorem Inv.opnd (h : Inv P n S0 w0 S O g tm w) {y : Operand} {x : PX} (hx : chkX y x = true) (hp : (x.ev g).isPure = true) : Rep S w (x.ev g) (rho tm y) := by
  unfold chkX at hx
  split at hx
  · simp at hx; obtain ⟨rfl, hlt⟩ := hx; exact h.rep hp
  · rename_i t t' s
    simp at hx; obtain ⟨rfl, hlt⟩ := hx
    simp only [PX.ev] at hp ⊢
    have hs := h.slot t
    cases hg : g t <;> simp only [hg] at hp ⊢ <;> (try (simp [D.isPure] at hp; done))
    all_goals first
      | (have := h.rep (t := t) (by rw [hg]; exact hp); rw [hg] at this; exact this)
      | skip
    · rename_i s'
      by_cases e : s' = s
      · simp only [e, if_true] at hp ⊢
        rw [hg] at hs
        simp only [SR] at hs
        have := h.rep hp
        rw [e] at hs
        simp only [tmOf_lt hlt, tmOf_lt (h.lt hp)] at hs
        simp only [rho]
        rw [hs.2]
        exact this
      · simp [e, D.isPure] at hp
  · exact constOk_rep hx
  · simp at hx; subst hx
    exact .clo _ [] [] rfl (fun i d v hd => by simp at hd)
  · cases hx

theorem Inv.opndOwn (h : Inv P n S0 w0 S O g tm w) {y : Operand} {x : PX} (hx : chkX y x = true) (hp : (x.ev g).owned = true) :
    ∃ s, x.slot = some s ∧ g s = x.ev g ∧ OwnR P S w (O s) (x.ev g) (rho tm y) := by
  unfold chkX at hx
  split at hx
  · simp at hx; obtain ⟨rfl, hlt⟩ := hx
    refine ⟨_, rfl, rfl, ?_⟩
    have := (SR.owned_iff hp).1 (h.slot _)
    simp only [PX.ev] at this ⊢
    rwa [tmOf_lt hlt] at this
  · rename_i t t' s
    simp at hx; obtain ⟨rfl, hlt⟩ := hx
    simp only [PX.ev] at hp ⊢
    have hs := h.slot t
    refine ⟨s, rfl, ?_⟩
    cases hg : g t <;> simp only [hg] at hp ⊢ <;> (try (simp [D.owned] at hp; done))
    · rename_i s'
      by_cases e : s' = s
      · simp only [e, if_true] at hp ⊢
        rw [hg] at hs
        simp only [SR] at hs
        refine ⟨trivial, ?_⟩
        have := (SR.owned_iff hp).1 (h.slot s)
        rw [e] at hs
        simp only [rho]
        rw [show tm.getD t undef = tmOf n.gv tm s by rw [← hs.2, tmOf_lt hlt]]
        exact this
      · simp [e, D.owned] at hp
  · simp only [PX.ev] at hp
    rename_i v d
    unfold constOk at hx
    split at hx <;> first | (simp [D.owned] at hp; done) | cases hx
  · simp [PX.ev, D.owned] at hp
  · cases hx

end Go.Pi
