/-
  The digest reference, second part: the compression function.
-/
import Derived.Test.YthhphphdbgkdgaaDoorDRefA
namespace Go.Proofs.YthhphphdbgkdgaaDoor
open Go Go.RowKit
set_option linter.unusedSimpArgs false
set_option linter.unusedVariables false
set_option maxRecDepth 100000
abbrev arr8 : Ty := .arr 8 u32
abbrev arr64 : Ty := .arr 64 u32
def cRounds : Ctr := { args := [], pre := fun _ => [], res := arr64, own := none, out := fun _ => roundK }
def stOf (l : List (BitVec 32)) : St := ⟨l.getD 0 0, l.getD 1 0, l.getD 2 0, l.getD 3 0, l.getD 4 0, l.getD 5 0, l.getD 6 0, l.getD 7 0⟩
def mixL (s t : List (BitVec 32)) (i : Nat) : List (BitVec 32) := (List.range 8).map fun j => if j < i then t.getD j 0 + s.getD j 0 else t.getD j 0
theorem mixL_set (s t : List (BitVec 32)) (i : Nat) (h : i < 8) : (mixL s t i).set i ((mixL s t i).getD i 0 + s.getD i 0) = mixL s t (i + 1) := by
  rcases (by omega : i = 0 ∨ i = 1 ∨ i = 2 ∨ i = 3 ∨ i = 4 ∨ i = 5 ∨ i = 6 ∨ i = 7) with rfl | rfl | rfl | rfl | rfl | rfl | rfl | rfl <;> rfl
theorem not_sub (x : BitVec 32) : BitVec.ofNat 32 4294967295 - x = ~~~ x := by
  apply BitVec.eq_of_toNat_eq
  have := x.isLt
  rw [BitVec.toNat_sub, BitVec.toNat_not, BitVec.toNat_ofNat]
  omega
def cStep : Ctr := { args := [arr8, bs], pre := fun x => [List.length x.2.1 = 64], res := arr8, own := none, out := fun x => stWords (compress (stOf x.1) x.2.1) }
end Go.Proofs.YthhphphdbgkdgaaDoor
