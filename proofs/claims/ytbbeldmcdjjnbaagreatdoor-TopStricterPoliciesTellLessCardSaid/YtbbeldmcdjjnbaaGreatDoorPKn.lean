/-
  The types of package policy, as plain types (with those of package digest).
-/
import Derived.Test.YtbbeldmcdjjnbaaGreatDoorProg
import Derived.Test.YtbbeldmcdjjnbaaGreatDoorAbsMem
import Derived.Test.YtbbeldmcdjjnbaaGreatDoorDKn
namespace Go.Proofs.YtbbeldmcdjjnbaaGreatDoor
open Go Go.RowKit
set_option linter.unusedSimpArgs false
set_option linter.unusedVariables false

abbrev gr : Ty := .pair i64 (.pair i64 (.pair i64 (.pair i64 (.pair i64 .unit))))
abbrev po : Ty := .pair (.slice gr) .unit
abbrev ints : Ty := .slice i64
abbrev who : Ty := .pair i64 (.pair ints .unit)
abbrev oc : Ty := .pair i64 (.pair i64 (.pair ints .unit))
abbrev fl : Ty := .pair i64 (.pair i64 .unit)
abbrev wd : Ty := .pair .str (.pair i64 .unit)
abbrev rd : Ty := .pair (.slice wd) .unit
abbrev rr : Ty := .pair (.slice wd) (.pair i64 (.pair i64 (.pair i64 .unit)))
def pT : Tbl := [(3, i64), (4, .bool), (5, u8), (9, .str), (46, bs), (36, i64), (66, gr), (22, .slice gr), (96, .slice (.slice gr)), (30, po), (24, ints), (26, who),
  (72, oc), (69, .slice oc), (168, .arr 2 i64)]
def pQ : List TypeId := [66]
def pU : UTbl := [(46, 5), (22, 66), (96, 22), (24, 3), (69, 72)]
def pK : Kn := { T := pT, Q := pQ, U := pU, C := [] }
set_option maxRecDepth 100000 in
theorem pT_ok : TOk Tryz.prog pT pQ := tok_of (by kernel_rfl) (by kernel_rfl)
theorem pU_ok : UOk Tryz.prog pU := elemB_ok (by kernel_rfl)
/-- what holds of the world throughout -/
def pG (_ : World) : Prop := True
theorem pK_ok : KnOk Tryz.prog pG pK := ⟨pT_ok, pU_ok, CsOk.nil, fun _ _ _ _ => trivial, RsOk.nil⟩
end Go.Proofs.YtbbeldmcdjjnbaaGreatDoor
