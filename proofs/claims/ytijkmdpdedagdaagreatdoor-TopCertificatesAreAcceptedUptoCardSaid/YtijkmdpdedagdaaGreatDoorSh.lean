/-
  FROM THE CONTRACTS OVER DATA TO THE ROWS: WHAT ALL LAWS SHARE. Own work, after the given worked toy of a law over a package-level table.
-/
import Derived.Test.YtijkmdpdedagdaaGreatDoorCards
import Derived.Test.YtijkmdpdedagdaaGreatDoorTie
import Derived.WalkKit
import Derived.ProofKit
import Derived.OpenShut
import Derived.Deep.DeepHandedRow
import Derived.Deep.DeepWitnessRowRef
import Derived.Lib.LaidTab
import Derived.LaidMore
import Derived.Lay
import Derived.Stop.LaidErr
import Derived.Below
import Derived.ChangeSame
import Derived.Carry
import Derived.Test.YtijkmdpdedagdaaGreatDoorPk
import Derived.Test.YtijkmdpdedagdaaGreatDoorSa
set_option linter.unusedVariables false
set_option linter.unusedSimpArgs false
namespace Go.Proofs.YtijkmdpdedagdaaGreatDoor
open Go Go.Pi Go.ChangeShapes Go.WideShapes Go.ChangeAt Go.RowKit

theorem own : ownKnob Tryz.prog.godebug = none := by kernel_rfl
theorem laidOut : laidOutB Tryz.prog = true := by kernel_rfl

section
variable {H : Type} {enc : TypeId × Value → H} {P : Program}

/-- the row's last step where nothing below the heap's old size has changed -/
theorem post_of_below {f : Func} {s : ChangeSpec} {apart fresh handsOn again : Bool} {W W' : World} {args : Array Value} {v : Value} {ds gs : List (DataW H)} {before pa pv : List MemPlace}
    (hW : DataW.Whole enc P f.params.toList s.vars apart W args.toList ds gs before)
    (hres : ∀ (b : Nat) (sp : Nat → Bool) (hd : Bool), DataW.TrodAll enc P W' b sp hd f.resultTypes.toList (v.resultList f.resultTypes.size) (s.fn H (ds ++ gs)).results [])
    (hargs : ∀ sp : Nat → Bool, (∀ p ∈ before, sp p.block = true) → DataW.TrodAll enc P W' 0 sp true f.params.toList args.toList (s.fn H (ds ++ gs)).args pa)
    (hvars : ∀ sp : Nat → Bool, (∀ p ∈ before, sp p.block = true) → DataW.TrodVars enc P W' sp s.vars (s.fn H (ds ++ gs)).vars pv)
    (hps : before = pa ++ pv) (hb : Below W.heap.size W W')
    (hok : ∀ (j : Nat) (t : TypeId) (r : Value), f.resultTypes[j]? = some t → (v.resultList f.resultTypes.size)[j]? = some r → Value.okWide P W' .any 0 t r) :
    s.post enc P f apart fresh handsOn again W args v W' := by
  have old : ∀ p ∈ before, p.block < W.heap.size := fun p hp => hW.lt p hp
  have kept : ∀ p ∈ before, (fun b => decide (b < W.heap.size)) p.block = true := fun p hp => by simpa using old p hp
  refine ⟨ds, gs, before, [], pa, pv, hW, hres _ _ _, hargs _ kept, hvars _ kept, World.keptBut_mono (fun p hp => ⟨hp, ?_⟩) (hb.frame (· ∈ before)), fun _ => ?_⟩
  · rw [hps, List.mem_append] at hp
    exact .inr hp
  · obtain ⟨_, _, _, _, _, hz, hn⟩ := hW
    refine ⟨hok, _, _, ([] ++ pa) ++ pv, ⟨[] ++ pa, pv, trodAll_append (hargs _ (fun _ _ => rfl)) (hres _ _ _), hvars _ (fun _ _ => rfl), rfl, ?_, ?_⟩, ?_⟩
    · intro b off hp
      have hin : MemPlace.cell b off ∈ before := by rw [hps]; simpa using hp
      rw [hb.frozen (old _ hin)]
      exact hz b off hin
    · intro ha
      have := hn ha
      rw [hps] at this
      simpa using this
    · intro p hp _
      rw [hps]
      simpa using hp

theorem one_le (d : DataW H) : 1 ≤ Rows.uptoBulk d := by
  cases d with
  | lit l => cases l <;> simp [Rows.uptoBulk]
  | nil => simp [Rows.uptoBulk]
  | ptr d => simp [Rows.uptoBulk]
  | slice elems spare => simp [Rows.uptoBulk]
  | agg parts => simp [Rows.uptoBulk]
  | iface t d => simp [Rows.uptoBulk]
  | map entries => simp [Rows.uptoBulk]
  | held h => simp [Rows.uptoBulk]
theorem part_le {d : DataW H} {l : List (DataW H)} (h : d ∈ l) : Rows.uptoBulk d ≤ Rows.uptoBulkAll l := by
  induction l with
  | nil => cases h
  | cons x r ih =>
    simp only [Rows.uptoBulkAll]
    rcases List.mem_cons.1 h with rfl | h
    · omega
    · have := ih h; omega
theorem length_le (l : List (DataW H)) : l.length ≤ Rows.uptoBulkAll l := by
  induction l with
  | nil => simp [Rows.uptoBulkAll]
  | cons x r ih => have := one_le x; simp only [Rows.uptoBulkAll, List.length_cons]; omega

theorem bulk : Bulk (Rows.uptoBulk (H := H)) where
  len elems spare := by have := length_le elems; simp only [Rows.uptoBulk]; omega
  elem elems spare d hd := by have := part_le hd; simp only [Rows.uptoBulk]; omega
  part parts d hd := by have := part_le hd; simp only [Rows.uptoBulk]; omega
  str s := by simp [Rows.uptoBulk]

theorem bound {l : List (DataW H)} (hk : Rows.uptoSmall H l = true) : ∀ d ∈ l, Rows.uptoBulk d ≤ 1048576 := fun d hd => by
  have h1 := part_le hd
  have h2 : Rows.uptoBulkAll l ≤ 1048576 := by simpa [Rows.uptoSmall] using hk
  omega
end

/-- WHAT THE ROW's LIST GIVES: nothing is asked of it -/
theorem ofLaid {W : World} (_h : laidMetH Tryz.prog Rows.topCertificatesAreAcceptedRow.laid W) : Tryz.L W := trivial

/-- A WORLD FOR THE WITNESS -/
noncomputable def doorWorld (os : Os) : World := World.laidAll Tryz.prog os Rows.topCertificatesAreAcceptedRow.laid
theorem door_met (os : Os) (args : Array Value) : laidMetH Tryz.prog Rows.topCertificatesAreAcceptedRow.laid ((doorWorld os).forCall (fun _ _ => 0) ⟨#[], args, []⟩).memory := by
  rw [MakeChecks.laidMetH_plain _ _ _ (by kernel_rfl)]
  exact laidMet_laidAll _ (by kernel_rfl) (by kernel_rfl)
end Go.Proofs.YtijkmdpdedagdaaGreatDoor

/-
  WHAT IS READ AT THE TYPES OF ARGUMENTS. Own work.
-/
namespace Go.Pi
open Go

variable {P : Program} {N : Nat} {t : TypeId} {ds : List D}
theorem Sh.toInt {k : IntKind} (h : Sh P N t ds) (hu : P.underlying t = some (.int k)) : ∃ n, ds = [.int k n] ∧ (Lit.int k n).wf = true := by
  cases h with
  | int k' n hu' hn => rw [hu] at hu'; cases hu'; exact ⟨n, rfl, hn⟩
  | bool b hu' => rw [hu] at hu'; cases hu'
  | str s hu' => rw [hu] at hu'; cases hu'
  | sl rs hu' => rw [hu] at hu'; cases hu'
  | arr rs hu' => rw [hu] at hu'; cases hu'
  | struct rs hu' => rw [hu] at hu'; cases hu'
theorem Sh.toSl {e : TypeId} (h : Sh P N t ds) (hu : P.underlying t = some (.slice e)) : ∃ rs : List (List D), ds = [.sl rs.length rs.flatten] ∧ rs.length ≤ N ∧ ∀ r ∈ rs, Sh P N e r := by
  cases h with
  | int k' n hu' hn => rw [hu] at hu'; cases hu'
  | bool b hu' => rw [hu] at hu'; cases hu'
  | str s hu' => rw [hu] at hu'; cases hu'
  | sl rs hu' hl h hc => rw [hu] at hu'; cases hu'; exact ⟨rs, rfl, hl, h⟩
  | arr rs hu' => rw [hu] at hu'; cases hu'
  | struct rs hu' => rw [hu] at hu'; cases hu'
theorem Sh.toArr {e : TypeId} {n : Nat} (h : Sh P N t ds) (hu : P.underlying t = some (.array n e)) : ∃ rs : List (List D), ds = rs.flatten ∧ rs.length = n ∧ ∀ r ∈ rs, Sh P N e r := by
  cases h with
  | int k' n hu' hn => rw [hu] at hu'; cases hu'
  | bool b hu' => rw [hu] at hu'; cases hu'
  | str s hu' => rw [hu] at hu'; cases hu'
  | sl rs hu' hl h hc => rw [hu] at hu'; cases hu'
  | arr rs hu' hl h hc => rw [hu] at hu'; cases hu'; exact ⟨rs, rfl, hl, h⟩
  | struct rs hu' => rw [hu] at hu'; cases hu'
end Go.Pi
namespace Go.Proofs.YtijkmdpdedagdaaGreatDoor
open Go Go.Pi Go.ChangeShapes Go.WideShapes Go.ChangeAt Go.RowKit

end Go.Proofs.YtijkmdpdedagdaaGreatDoor
