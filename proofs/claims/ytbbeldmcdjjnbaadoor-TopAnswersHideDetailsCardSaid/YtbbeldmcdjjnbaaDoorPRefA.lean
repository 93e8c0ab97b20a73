/-
  The reference of chapter 25: Has, ValidGrant, Valid, Fits, First, Grain, MayBook, Rank, MayMove.
-/
import Derived.Test.YtbbeldmcdjjnbaaDoorPSpec
namespace Go.Proofs.YtbbeldmcdjjnbaaDoor
open Go Go.RowKit
set_option linter.unusedSimpArgs false
set_option linter.unusedVariables false
set_option maxRecDepth 100000
def cHas : Ctr := { args := [ints, i64], pre := fun _ => [], res := .bool, own := none, out := fun x => decide (x.2.1 ∈ x.1) }
theorem mem_take_succ {α : Type} [DecidableEq α] {l : List α} {x : α} {k : Nat} (hk : k < l.length) : x ∈ l.take (k + 1) ↔ x ∈ l.take k ∨ l[k] = x := by
  rw [List.take_succ_eq_append_getElem hk, List.mem_append, List.mem_singleton]
  exact or_congr Iff.rfl eq_comm
theorem getD_at {α : Type} {l : List α} {z : α} {k : Nat} (hk : k < l.length) : l.getD ((k : Int).toNat) z = l[k] := by
  rw [Int.toNat_natCast, List.getD_eq_getElem?_getD, List.getElem?_eq_getElem hk]
  rfl
def cValidGrant : Ctr := { args := [gr], pre := fun _ => [], res := .bool, own := none, out := fun x => decide (OkG x.1) }
def cValid : Ctr := { args := [po], pre := fun _ => [], res := .bool, own := none, out := fun x => decide (OkP x.1.1) }
def cFits : Ctr := { args := [gr, who], pre := fun _ => [], res := .bool, own := none, out := fun x => fits x.1 x.2.1.1 x.2.1.2.1 }
def cFirst : Ctr := { args := [po, i64, who], pre := fun _ => [], res := i64, own := none, out := fun x => idx1 x.1.1 x.2.1 x.2.2.1.1 x.2.2.1.2.1 }
def cGrain : Ctr := { args := [po, who], pre := fun _ => [], res := i64, own := none, out := fun x => grain x.1.1 x.2.1.1 x.2.1.2.1 }
theorem okP_idx {l : List Gt} {a p : Int} {ts : List Int} (hi : ¬ idx1 l a p ts < 0) : 0 ≤ idx1 l a p ts ∧ idx1 l a p ts < (l.length : Nat) := ⟨by omega, (idx_lt _ _).1⟩
def cBook : Ctr := { args := [po, who], pre := fun _ => [], res := .bool, own := none, out := fun x => book x.1.1 x.2.1.1 x.2.1.2.1 }
def cRank : Ctr := { args := [po, who], pre := fun _ => [], res := i64, own := none, out := fun x => rank x.1.1 x.2.1.1 x.2.1.2.1 }
def cMove : Ctr := { args := [po, who, i64], pre := fun _ => [], res := .bool, own := none, out := fun x => move x.1.1 x.2.1.1 x.2.1.2.1 x.2.2.1 }
def less (l m : List Gt) (pe : Int) (ts : List Int) : Bool := decide (grain l pe ts ≤ grain m pe ts) && (!book l pe ts || book m pe ts) && decide (rank l pe ts ≤ rank m pe ts)
def cLess : Ctr := { args := [po, po, who], pre := fun _ => [], res := .bool, own := none, out := fun x => less x.1.1 x.2.1.1 x.2.2.1.1 x.2.2.1.2.1 }
def cIndex : Ctr := { args := [i64, i64], pre := fun x => [1 ≤ x.2.1, x.2.1 ≤ 1000], res := i64, own := none, out := fun x => x.1 % x.2.1 }
end Go.Proofs.YtbbeldmcdjjnbaaDoor
