/-
  The types of the digest seat's program, as plain types.
-/
import Derived.Test.YtbbeldmcdjjnbaaDoorProg
import Derived.Test.YtbbeldmcdjjnbaaDoorAbsCode
import Derived.Test.YtbbeldmcdjjnbaaDoorShaSpec
namespace Go.Proofs.YtbbeldmcdjjnbaaDoor
open Go Go.RowKit
set_option linter.unusedSimpArgs false
set_option linter.unusedVariables false

abbrev u8 : Ty := .int .u8
abbrev i64 : Ty := .int .i64
abbrev u32 : Ty := .int .u32
abbrev bs : Ty := .slice u8
abbrev dg : Ty := .arr 32 u8
def dT : Tbl := [(3, i64), (4, .bool), (5, u8), (9, .str), (42, bs), (125, .slice bs), (32, dg), (35, i64), (126, .int .u32), (134, .int .u64), (127, .arr 8 u32), (154, .arr 64 u32), (100, .int .u64), (128, .arr 8 u32), (133, .arr 8 u8), (103, .arr 64 u8)]
def dQ : List TypeId := [32]
def dU : UTbl := [(42, 5), (125, 42)]
def dK : Kn := { T := dT, Q := dQ, U := dU, C := [] }
set_option maxRecDepth 100000 in
theorem dT_ok : TOk Tryd.prog dT dQ := tok_of (by kernel_rfl) (by kernel_rfl)
theorem dU_ok : UOk Tryd.prog dU := elemB_ok (by kernel_rfl)
/-- the package variable 'rounds' holds the round constants -/
def dG (w : World) : Prop := 0 < w.heap.size ∧ ∃ cs, RepC w (fun _ => True) (.arr 64 u32) roundK cs ∧ CellsAt w 0 0 cs
theorem dG_kept {R : Nat → Prop} {w w' : World} (hR : ¬ R 0) (h : dG w) (hk : Kept R w w') : dG w' := by
  obtain ⟨h1, cs, h2, h3⟩ := h
  refine ⟨Nat.lt_of_lt_of_le h1 hk.size, cs, repC_flat (.arr 64 u32) rfl _ _ h2, fun j u hu => ?_⟩
  have h4 := h3 j u hu
  unfold World.cell? at *
  rw [hk.block _ h1 hR]
  exact h4
theorem dG_st (w w' : World) (h : dG w) (hb : Below w.heap.size w w') : dG w' := dG_kept (R := fun _ => False) (fun h => h) h ⟨hb.os, hb.tape, hb.output, hb.size, fun k hk _ => hb.block k hk⟩
theorem dM : Tryd.prog.follows .mixedOrders = true := by kernel_rfl
theorem dK_ok : KnOk Tryd.prog dG dK := ⟨dT_ok, dU_ok, CsOk.nil, dG_st, RsOk.nil⟩
end Go.Proofs.YtbbeldmcdjjnbaaDoor
