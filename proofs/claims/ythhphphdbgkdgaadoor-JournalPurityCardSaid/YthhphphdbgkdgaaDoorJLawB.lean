/-
  The statements of chapter 23: prefix (needs cuts at bounds that are known only under a guard: see NOTES).
-/
import Derived.Test.YthhphphdbgkdgaaDoorJLawA
namespace Go.Proofs.YthhphphdbgkdgaaDoor
open Go Go.RowKit
set_option linter.unusedSimpArgs false
set_option linter.unusedVariables false
set_option maxRecDepth 100000
theorem test2b {p : Prop} [Decidable p] {b : Bool} : (bif decide p then b else false) = true ↔ p ∧ b = true := by
  by_cases hp : p <;> simp [hp]
def cPrefix : Ctr := { args := [.slice bs, .slice bs], pre := fun _ => [], res := .bool, own := none, out := fun x => decide (x.1 <+: x.2.1) }
end Go.Proofs.YthhphphdbgkdgaaDoor
