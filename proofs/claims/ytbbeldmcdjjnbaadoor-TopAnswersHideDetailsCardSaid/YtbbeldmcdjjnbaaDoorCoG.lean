/-
  Package coarse, fifth part: Coarser.
-/
import Derived.Test.YtbbeldmcdjjnbaaDoorCoF
import Derived.Test.YtbbeldmcdjjnbaaDoorAbsVar
namespace Go.Proofs.YtbbeldmcdjjnbaaDoor
open Go Go.RowKit
set_option linter.unusedSimpArgs false
set_option linter.unusedVariables false
set_option maxRecDepth 100000
theorem fnInt : FnTy Tryd.prog 61 := by
  refine ⟨fun w => by simp [go_sem], fun w => by simp [go_sem], fun w ev o ho => ?_⟩
  unfold execOp
  simp [ho, Instr.alloc, Tryd.zeroValue61, newVar, newRow, go_sem]
/-- how many cells of one grain are a cell of another -/
def ratioS (g to : Int) : Nat := ((sizeS to).tdiv (sizeS g)).toNat
def coarsS (v : List Int) (g to : Int) : List Int := (List.range (chN v (ratioS g to))).map fun k => orS ((chAt v (ratioS g to) k).map (bitsS to))
def coarserS (v : List Int) (g to : Int) (w : Sp) : List Int × Int :=
  if (cellsS g w).2 ≠ 0 then ([], (cellsS g w).2) else if possS v g (cellsS g w).1 = false ∨ to < 0 ∨ to > g then ([], 1) else if (cellsS to w).2 ≠ 0 then ([], (cellsS to w).2) else (coarsS v g to, 0)
theorem ratio_ok {g to : Int} (h1 : 1 ≤ to) (h2 : to ≤ g) (h3 : g ≤ 4) : (sizeS to).tdiv (sizeS g) = (ratioS g to : Int) ∧ 1 ≤ ratioS g to ∧ ratioS g to ≤ 1440 := by
  have hg : g = 1 ∨ g = 2 ∨ g = 3 ∨ g = 4 := by omega
  have ht : to = 1 ∨ to = 2 ∨ to = 3 ∨ to = 4 := by omega
  rcases hg with rfl | rfl | rfl | rfl <;> rcases ht with rfl | rfl | rfl | rfl <;> first | omega | decide
theorem poss_bytes {v : List Int} {g n : Int} (h : possS v g n = true) : bytesI v ∧ ((v.length : Nat) : Int) = n := by
  unfold possS at h
  rw [Bool.and_eq_true, Bool.not_eq_true', List.any_eq_false] at h
  refine ⟨fun x hx => ?_, by simpa using h.1⟩
  have h2 := h.2 x hx
  unfold offV mostS at h2
  simp only [Bool.or_eq_true, decide_eq_true_iff, not_or] at h2
  split at h2 <;> omega
def cCoarser : Ctr := { args := [ints, i64, i64, sp], pre := fun x => [x.1 ≠ []], res := .tup (.slice i64) (.tup i64 .unit), own := none, out := fun x => ((coarserS x.1 x.2.1 x.2.2.1 x.2.2.2.1).1, (coarserS x.1 x.2.1 x.2.2.1 x.2.2.2.1).2, ()) }
end Go.Proofs.YtbbeldmcdjjnbaaDoor
