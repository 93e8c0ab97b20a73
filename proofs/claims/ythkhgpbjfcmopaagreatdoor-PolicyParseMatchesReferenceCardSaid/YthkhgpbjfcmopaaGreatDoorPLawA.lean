/-
  Parse of the package and of the reference: the statement.
-/
import Derived.Test.YthkhgpbjfcmopaaGreatDoorPLawS
namespace Go.Proofs.YthkhgpbjfcmopaaGreatDoor
open Go Go.RowKit
set_option linter.unusedSimpArgs false
set_option linter.unusedVariables false
set_option maxRecDepth 100000
def kLa : Kn := { pK with C := [(14, cSanity), (30, cRParse), (31, cRParse), (32, cSame)] }
theorem kLa_ok : KnOk Tryz.prog pH kLa := hK_ok.with (.cons sanity_ok <| .cons parse_ok <| .cons rparse_ok.lift <| .cons rsame_ok.lift .nil)
theorem law3_ok : CtrOk Tryz.prog pH 5 (lawCtr [.str]) := by
  refine ctr_of_awp (K := kLa) kLa_ok Tryz.func5 rfl rfl Tryz.call5 rfl (by decide) (by intro h; cases h) ?_
  rintro w0 X hX ⟨(s : List UInt8), _⟩ hp
  change AWP _ _ _ _ _ ⟨[(0, ⟨.str, s⟩)], [], 0⟩ _
  (repeat (first | refine AWP.seq ?_ | refine AWP.skip ?_ | refine AWP.block ?_ | refine AWP.exit ?_)); refine AWP.region hX kLa_ok rfl ?_ ?_
  · trivial
  (repeat (first | refine AWP.seq ?_ | refine AWP.skip ?_ | refine AWP.block ?_ | refine AWP.exit ?_)); refine AWP.region hX kLa_ok rfl ?_ ?_
  · trivial
  have m0 : (0 : Int) ≤ min (((s.length : Nat) : Int)) 5000 := by omega
  have m1 : min (((s.length : Nat) : Int)) 5000 ≤ ((s.length : Nat) : Int) := by omega
  (repeat (first | refine AWP.seq ?_ | refine AWP.skip ?_ | refine AWP.block ?_ | refine AWP.exit ?_)); refine AWP.region hX kLa_ok rfl ?_ ?_
  · repeat' (first | exact trivial | assumption | exact m0 | exact m1 | (refine ⟨?_, ?_⟩) | (intro _) | exact Nat.le_of_ble_eq_true rfl | exact Int.natCast_nonneg _ | (simp_all [allP]; done))
  (repeat (first | refine AWP.seq ?_ | refine AWP.skip ?_ | refine AWP.block ?_ | refine AWP.exit ?_)); refine AWP.region hX kLa_ok rfl ?_ ?_
  · trivial
  (repeat (first | refine AWP.seq ?_ | refine AWP.skip ?_ | refine AWP.block ?_ | refine AWP.exit ?_)); refine AWP.region hX kLa_ok rfl ?_ ?_
  · trivial
  (repeat (first | refine AWP.seq ?_ | refine AWP.skip ?_ | refine AWP.block ?_ | refine AWP.exit ?_)); refine AWP.region hX kLa_ok rfl ?_ ?_
  · repeat' (first | exact trivial | assumption | (refine ⟨?_, ?_⟩) | (intro _))
  refine AWP.ret ⟨.inr rfl, done1 rfl trivial rfl rfl ?_⟩
  exact bif_true (bif_true (bif_true (decide_eq_true rfl) (beq_self_eq_true (α := Int) _)) (beq_self_eq_true (α := Int) _)) rfl
end Go.Proofs.YthkhgpbjfcmopaaGreatDoor
