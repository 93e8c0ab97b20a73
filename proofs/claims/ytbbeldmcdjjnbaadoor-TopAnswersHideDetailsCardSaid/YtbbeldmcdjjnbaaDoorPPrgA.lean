/-
  Package policy: validGrant, Valid, first, Grain, MayBook, MayMove.
-/
import Derived.Test.YtbbeldmcdjjnbaaDoorPRefA
namespace Go.Proofs.YtbbeldmcdjjnbaaDoor
open Go Go.RowKit
set_option linter.unusedSimpArgs false
set_option linter.unusedVariables false
set_option maxRecDepth 100000
def cBetween : Ctr := { args := [i64, i64, i64], pre := fun _ => [], res := .bool, own := none, out := fun x => decide (x.1 ≤ x.2.1) && decide (x.2.1 ≤ x.2.2.1) }
def cInvalid : Ctr := { args := [gr], pre := fun _ => [], res := .bool, own := none, out := fun x => !decide (OkG x.1) }
theorem idx_any {α : Type} (f : α → Bool) (l : List α) : decide (idx f l ≥ 0) = l.any f := by
  rw [Bool.eq_iff_iff, decide_eq_true_iff, List.any_eq_true]
  unfold idx
  constructor
  · intro h
    split at h
    · rename_i hl
      exact ⟨l[l.findIdx f], List.getElem_mem hl, List.findIdx_getElem (w := hl)⟩
    · omega
  · rintro ⟨x, hx, hf⟩
    rw [if_pos (List.findIdx_lt_length_of_exists ⟨x, hx, hf⟩)]
    omega
def cIdxI : Ctr := { args := [ints, i64], pre := fun _ => [], res := i64, own := none, out := fun x => idx (fun y => decide (x.2.1 = y)) x.1 }
/-- what 'first' asks of a grant that is valid -/
def asks (a p : Int) (ts : List Int) (g : Gt) : Bool := decide (gA g = a) && (if 0 ≤ gP g then decide (gP g = p) else decide (gT g < 0) || decide (gT g ∈ ts))
def cFirst1 : Ctr := { args := [gr, .vptr i64, .vptr i64, .vptr ints], pre := fun _ => [], res := .bool, own := none, out := fun x => asks x.2.1 x.2.2.1 x.2.2.2.1 x.1 }
/-- the function literal of 'first', with what it captured -/
abbrev cap3 : Ty := .tup (.vptr i64) (.tup (.vptr i64) (.tup (.vptr ints) .unit))
theorem idx_congr {α : Type} {f g : α → Bool} {l : List α} (h : ∀ x ∈ l, f x = g x) : idx f l = idx g l := by
  have : ∀ l : List α, (∀ x ∈ l, f x = g x) → l.findIdx f = l.findIdx g := by
    intro l h
    induction l with
    | nil => rfl
    | cons x r ih =>
      rw [List.findIdx_cons, List.findIdx_cons, h x (List.mem_cons_self ..), ih fun y hy => h y (List.mem_cons_of_mem _ hy)]
  unfold idx
  rw [this l h]
theorem asks_idx {l : List Gt} (h : OkP l) (a p : Int) (ts : List Int) : idx (asks a p ts) l = idx1 l a p ts := by
  refine idx_congr fun g hg => ?_
  have hv := (h.2 g hg).2.1
  unfold asks fits
  by_cases hp : 0 ≤ gP g
  · rw [if_pos hp, if_pos hp]
  · rw [if_neg hp, if_neg hp]
    have : decide (gT g < 0) = decide (gT g = -1) := by rw [decide_eq_decide]; omega
    rw [this]
def fstO (l : List Gt) (a p : Int) (ts : List Int) : Gt × Bool × Unit := if OkP l then (match fst1 l a p ts with | some g => (g, true, ()) | none => (zG, false, ())) else (zG, false, ())
def cFst : Ctr := { args := [po, i64, i64, ints], pre := fun _ => [], res := .tup gr (.tup .bool .unit), own := none, out := fun x => fstO x.1.1 x.2.1 x.2.2.1 x.2.2.2.1 }
def cGrainP : Ctr := { args := [po, i64, ints], pre := fun _ => [], res := i64, own := none, out := fun x => grain x.1.1 x.2.1 x.2.2.1 }
def cBookP : Ctr := { args := [po, i64, ints], pre := fun _ => [], res := .bool, own := none, out := fun x => book x.1.1 x.2.1 x.2.2.1 }
/-- a grant's rank is never negative where it is valid -/
theorem rank_some {l : List Gt} (h : OkP l) {p : Int} {ts : List Int} {g : Gt} (hf : fst1 l 3 p ts = some g) : 0 ≤ gR g := (h.2 g (fst1_mem hf)).2.2.2.1.1
def cMoveP : Ctr := { args := [po, i64, ints, i64], pre := fun _ => [], res := .bool, own := none, out := fun x => move x.1.1 x.2.1 x.2.2.1 x.2.2.2.1 }
end Go.Proofs.YtbbeldmcdjjnbaaDoor
