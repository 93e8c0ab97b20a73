/-
  The types of the policy seat's program, as plain types.
-/
import Derived.Test.YthkhgpbjfcmopaaGreatDoorProg
import Derived.Test.YthkhgpbjfcmopaaGreatDoorAbsHeap
namespace Go.Proofs.YthkhgpbjfcmopaaGreatDoor
open Go Go.RowKit
set_option linter.unusedSimpArgs false
set_option linter.unusedVariables false

abbrev u8 : Ty := .int .u8
abbrev i64 : Ty := .int .i64
abbrev bs : Ty := .slice u8
abbrev gr : Ty := .pair i64 (.pair i64 (.pair i64 (.pair i64 (.pair i64 .unit))))
abbrev po : Ty := .pair (.slice gr) .unit
abbrev ints : Ty := .slice i64
abbrev who : Ty := .pair i64 (.pair ints .unit)
abbrev oc : Ty := .pair i64 (.pair i64 (.pair ints .unit))
abbrev fl : Ty := .pair i64 (.pair i64 .unit)
abbrev wd : Ty := .pair .str (.pair i64 .unit)
abbrev rd : Ty := .pair (.slice wd) .unit
abbrev rr : Ty := .pair (.slice wd) (.pair i64 (.pair i64 (.pair i64 .unit)))
def pT : Tbl := [(3, i64), (4, .bool), (5, u8), (9, .str), (77, bs), (39, i64), (49, gr), (22, .slice gr), (154, .slice (.slice gr)), (24, po), (25, ints), (27, who),
  (92, oc), (89, .slice oc), (100, fl), (161, wd), (105, .slice wd), (108, rd), (114, wd), (115, .slice wd), (111, .slice (.slice wd)), (117, rr),
  (167, .slice .str), (52, .arr 2 i64)]
def pQ : List TypeId := [49]
def pU : UTbl := [(77, 5), (22, 49), (154, 22), (25, 3), (89, 92), (105, 161), (115, 114), (111, 115), (167, 9)]
def pK : Kn := { T := pT, Q := pQ, U := pU, C := [] }
set_option maxRecDepth 100000 in
theorem pT_ok : TOk Tryz.prog pT pQ := tok_of (by kernel_rfl) (by kernel_rfl)
theorem pU_ok : UOk Tryz.prog pU := elemB_ok (by kernel_rfl)
/-- what holds of the world throughout -/
def pG (_ : World) : Prop := True
theorem dM : Tryz.prog.follows .mixedOrders = true := by kernel_rfl
theorem pK_ok : KnOk Tryz.prog pG pK := ⟨pT_ok, pU_ok, CsOk.nil, fun _ _ _ _ => trivial, RsOk.nil⟩
end Go.Proofs.YthkhgpbjfcmopaaGreatDoor
