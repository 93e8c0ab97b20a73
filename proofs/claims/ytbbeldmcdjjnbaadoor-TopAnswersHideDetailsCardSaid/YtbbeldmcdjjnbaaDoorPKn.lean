/-
  The types of package policy, as plain types (with those of package digest).
-/
import Derived.Test.YtbbeldmcdjjnbaaDoorProg
import Derived.Test.YtbbeldmcdjjnbaaDoorAbsMem
import Derived.Test.YtbbeldmcdjjnbaaDoorDKn
namespace Go.Proofs.YtbbeldmcdjjnbaaDoor
open Go Go.RowKit
set_option linter.unusedSimpArgs false
set_option linter.unusedVariables false

abbrev gr : Ty := .pair i64 (.pair i64 (.pair i64 (.pair i64 (.pair i64 .unit))))
abbrev po : Ty := .pair (.slice gr) .unit
abbrev ints : Ty := .slice i64
abbrev who : Ty := .pair i64 (.pair ints .unit)
abbrev oc : Ty := .pair i64 (.pair i64 (.pair ints .unit))
abbrev fl : Ty := .pair i64 (.pair i64 .unit)
abbrev wd : Ty := .pair .str (.pair i64 .unit)
abbrev rd : Ty := .pair (.slice wd) .unit
abbrev rr : Ty := .pair (.slice wd) (.pair i64 (.pair i64 (.pair i64 .unit)))
def pT : Tbl := [(3, i64), (4, .bool), (5, u8), (9, .str), (42, bs), (35, i64), (34, ints), (135, .arr 2 i64)]
def pQ : List TypeId := []
def pU : UTbl := [(42, 5), (34, 3)]
def pK : Kn := { T := pT, Q := pQ, U := pU, C := [] }
set_option maxRecDepth 100000 in
theorem pT_ok : TOk Tryd.prog pT pQ := tok_of (by kernel_rfl) (by kernel_rfl)
theorem pU_ok : UOk Tryd.prog pU := elemB_ok (by kernel_rfl)
/-- what holds of the world throughout -/
def pG (_ : World) : Prop := True
theorem pK_ok : KnOk Tryd.prog pG pK := ⟨pT_ok, pU_ok, CsOk.nil, fun _ _ _ _ => trivial, RsOk.nil⟩
end Go.Proofs.YtbbeldmcdjjnbaaDoor
