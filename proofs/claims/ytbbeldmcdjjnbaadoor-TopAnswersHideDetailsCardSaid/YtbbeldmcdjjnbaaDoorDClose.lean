/-
  What the closings of the statements of chapter 27 share: the package variable's content out of the row's list; a world for the witness.
-/
import Derived.Test.YtbbeldmcdjjnbaaDoorCards
import Derived.Test.YtbbeldmcdjjnbaaDoorTie
import Derived.Test.YtbbeldmcdjjnbaaDoorHiB
namespace Go.Proofs.YtbbeldmcdjjnbaaDoor
open Go Go.RowKit Go.ChangeShapes Go.WideShapes Go.ChangeAt
set_option linter.unusedSimpArgs false
set_option linter.unusedVariables false
set_option maxRecDepth 100000
theorem own : ownKnob Tryd.prog.godebug = none := by kernel_rfl
theorem laidOut : laidOutB Tryd.prog = true := by kernel_rfl
theorem gTab : Tryd.prog.globalNamed "kalends/digest.rounds" = some 0 := by kernel_rfl
theorem gTabType : (Tryd.prog.globals[0]?).map (·.type) = some 154 := by kernel_rfl
theorem cellsTab : Tryd.prog.cellsOf 154 = 64 := by kernel_rfl
theorem cellsWord : Tryd.prog.cellsOf 126 = 1 := by kernel_rfl
abbrev laidL {H : Type} : List (String × DataW H) := [("kalends/digest.rounds", Rows.laid_kalends_digest_rounds)]
def tabZ : List Int := roundK.map fun x => (x.toNat : Int)
theorem tab_eq : (Rows.laid_kalends_digest_rounds : DataW Unit) = Lib.tabData .u32 tabZ := by kernel_rfl
/-- what the row's list gives -/
theorem dG_laid {W : World} (h : laidMetH Tryd.prog laidL W) : dG W := by
  have h : laidMet Tryd.prog [("kalends/digest.rounds", Lib.tabData .u32 tabZ)] W := by rw [← tab_eq]; exact h
  have ht := Lib.tabIs_of_head (rest := []) gTab gTabType Tryd.underlying154 Tryd.underlying126 cellsWord cellsTab h
  have hlen : tabZ.length = 64 := rfl
  have hcell := fun i (hi : i < 64) => ht.cell gTab i (by rw [hlen]; exact hi)
  refine ⟨?_, tabZ.map fun z => .int .u32 z, ⟨rfl, ?_⟩, fun j u hu => ?_⟩
  · have h0 := hcell 0 (by omega)
    unfold World.cell? at h0
    cases ho : W.heap[0]? with
    | none => simp [ho] at h0
    | some o => exact (Array.getElem?_eq_some_iff.1 ho).1
  · unfold tabZ
    generalize roundK = l
    induction l with
    | nil => rfl
    | cons x l ih => exact ⟨_, _, rfl, rfl, ih⟩
  · have hj : j < 64 := by
      have := (List.getElem?_eq_some_iff.1 hu).1
      simpa [hlen] using this
    rw [Nat.zero_add, hcell j hj]
    rw [List.getElem?_map] at hu
    rw [← hu, List.getD_eq_getElem?_getD, List.getElem?_eq_getElem (by rw [hlen]; exact hj)]
    rfl
/-- a world for the witness: the settled one, the table holding what its initialiser lays -/
noncomputable def laidWorld (os : Os) : World :=
  { World.holding Tryd.prog os ⟨#[], #[], []⟩ with heap := (World.holding Tryd.prog os ⟨#[], #[], []⟩).heap.modify 0 fun
      | .cells _ t frozen => .cells (tabZ.map fun z => Value.int .u32 z).toArray t frozen
      | o => o }
def zero32 : Value := .agg (List.replicate 32 (Value.int .u8 0)).toArray
def dZero32 {H : Type} : DataW H := .agg (List.replicate 32 (.lit (.int .u8 0)))
end Go.Proofs.YtbbeldmcdjjnbaaDoor
