/-
  The package and the reference, valid policies: the statement.
-/
import Derived.Test.YthkhgpbjfcmopaaGreatDoorPLawB
import Derived.Test.YthkhgpbjfcmopaaGreatDoorPPlC
namespace Go.Proofs.YthkhgpbjfcmopaaGreatDoor
open Go Go.RowKit
set_option linter.unusedSimpArgs false
set_option linter.unusedVariables false
set_option maxRecDepth 100000
def kLc : Kn := { pK with C := kLb.C ++ [(25, cMade), (27, cPStr), (28, cRStr), (26, cFormatP), (29, cFormat)] }
theorem kLc_ok : KnOk Tryz.prog pH kLc := hK_ok.with (.cons sanity_ok <| .cons raw_ok <| .cons few_ok <| .cons valid_ok.lift <| .cons rvalid_ok.lift <| .cons grain_ok.lift <| .cons rgrain_ok.lift <| .cons book_ok.lift <| .cons rbook_ok.lift <| .cons move_ok.lift <| .cons rmove_ok.lift <| .cons rmade_ok.lift <| .cons stricter_ok.lift <| .cons rstricter_ok.lift <| .cons format_ok <| .cons rformat_ok.lift .nil)
set_option maxHeartbeats 1000000 in
theorem law2_ok : CtrOk Tryz.prog pH 4 (lawCtr [.slice gr, .slice gr, who]) := by
  refine ctr_of_awp (K := kLc) kLc_ok Tryz.func4 rfl rfl Tryz.call4 rfl (by decide) (by intro h; cases h) ?_
  rintro w0 X hX ⟨(a : List Gt), (b : List Gt), ⟨(person : Int), (ts : List Int), _⟩, _⟩ hp
  change AWP _ _ _ _ _ ⟨[(0, ⟨.slice gr, a⟩), (1, ⟨.slice gr, b⟩), (2, ⟨who, (person, ts, ())⟩)], [], 0⟩ _
  have ha := made_ok a
  have hb := made_ok b
  have hab := made_teams a b
  have hba := made_teams b a
  (repeat (first | refine AWP.seq ?_ | refine AWP.skip ?_ | refine AWP.block ?_ | refine AWP.exit ?_)); refine AWP.region hX kLc_ok rfl ?_ ?_
  · trivial
  (repeat (first | refine AWP.seq ?_ | refine AWP.skip ?_ | refine AWP.block ?_ | refine AWP.exit ?_)); refine AWP.region hX kLc_ok rfl ?_ ?_
  · trivial
  (repeat (first | refine AWP.seq ?_ | refine AWP.skip ?_ | refine AWP.block ?_ | refine AWP.exit ?_)); refine AWP.region hX kLc_ok rfl ?_ ?_
  · trivial
  (repeat (first | refine AWP.seq ?_ | refine AWP.skip ?_ | refine AWP.block ?_ | refine AWP.exit ?_)); refine AWP.region hX kLc_ok rfl ?_ ?_
  · trivial
  (repeat (first | refine AWP.seq ?_ | refine AWP.skip ?_ | refine AWP.block ?_ | refine AWP.exit ?_)); refine AWP.region hX kLc_ok rfl ?_ ?_
  · trivial
  (repeat (first | refine AWP.seq ?_ | refine AWP.skip ?_ | refine AWP.block ?_ | refine AWP.exit ?_)); refine AWP.draw dM hX kLc_ok 69 (by kernel_rfl) rfl rfl ?_ ?_ ?_
  · repeat' (first | exact trivial | assumption | (refine ⟨?_, ?_⟩) | (intro _))
  · trivial
  refine AWP.ret ⟨.inr rfl, done1 rfl trivial rfl rfl ?_⟩
  have f1 : cFormatP.out ((made a, ()), ()) = (text (made a), 0, ()) := if_pos ha
  have e1 : decide (OkP (made a)) = true := decide_eq_true ha
  have e2 : eqb .str (cFormatP.out ((made a, ()), ())).1 (text (made a)) = true := by rw [f1]; exact eqb_iff.2 rfl
  have e3 : ((cFormatP.out ((made a, ()), ())).2.1 == 0) = true := by rw [f1]; rfl
  have e4 : eqb .bool (pstr (made a) (made b)) (rstr (made a) (made b)) = true := by rw [pstr_rstr]; exact eqb_iff.2 rfl
  have e5 : eqb .bool (pstr (made b) (made a)) (rstr (made b) (made a)) = true := by rw [pstr_rstr]; exact eqb_iff.2 rfl
  exact bif_true (bif_true (bif_true (bif_true (bif_true (bif_true (bif_true (bif_true e1 (beq_self_eq_true (α := Int) _)) (eqb_iff.2 rfl)) (eqb_iff.2 rfl)) e4) e5) e2) e3) rfl
end Go.Proofs.YthkhgpbjfcmopaaGreatDoor
