/-
  The package and the reference, policies as they come: the statement.
-/
import Derived.Test.YthkhgpbjfcmopaaGreatDoorPLawS
namespace Go.Proofs.YthkhgpbjfcmopaaGreatDoor
open Go Go.RowKit
set_option linter.unusedSimpArgs false
set_option linter.unusedVariables false
set_option maxRecDepth 100000
def cRaw : Ctr := { args := [po], pre := fun _ => [], res := po, own := none, out := fun x => (x.1.1.take (min ((x.1.1.length : Nat) : Int) 70).toNat, ()) }
theorem raw_ok : CtrOk Tryz.prog pH 15 cRaw := by
  refine ctr_of_awp (K := pK) hK_ok Tryz.func15 rfl rfl Tryz.call15 rfl (by decide) (by intro h; cases h) ?_
  rintro w0 X hX ⟨⟨(l : List Gt), _⟩, _⟩ hp
  change AWP _ _ _ _ _ ⟨[(0, ⟨po, (l, ())⟩)], [], 0⟩ _
  (repeat (first | refine AWP.seq ?_ | refine AWP.skip ?_ | refine AWP.block ?_ | refine AWP.exit ?_)); refine AWP.region hX hK_ok rfl ?_ ?_
  · trivial
  have m0 : (0 : Int) ≤ min (((l.length : Nat) : Int)) 70 := by omega
  have m1 : min (((l.length : Nat) : Int)) 70 ≤ ((l.length : Nat) : Int) := by omega
  (repeat (first | refine AWP.seq ?_ | refine AWP.skip ?_ | refine AWP.block ?_ | refine AWP.exit ?_)); refine AWP.region hX hK_ok rfl ?_ ?_
  · repeat' (first | exact trivial | assumption | exact m0 | exact m1 | (refine ⟨?_, ?_⟩) | (intro _) | exact Nat.le_of_ble_eq_true rfl | exact Int.natCast_nonneg _ | (simp_all [allP]; done))
  exact AWP.ret ⟨.inr rfl, done1 rfl trivial rfl rfl rfl⟩
def cFew : Ctr := { args := [ints], pre := fun _ => [], res := ints, own := none, out := fun x => x.1.take (min ((x.1.length : Nat) : Int) 10).toNat }
theorem few_ok : CtrOk Tryz.prog pH 16 cFew := by
  refine ctr_of_awp (K := pK) hK_ok Tryz.func16 rfl rfl Tryz.call16 rfl (by decide) (by intro h; cases h) ?_
  rintro w0 X hX ⟨(l : List Int), _⟩ hp
  change AWP _ _ _ _ _ ⟨[(0, ⟨ints, l⟩)], [], 0⟩ _
  (repeat (first | refine AWP.seq ?_ | refine AWP.skip ?_ | refine AWP.block ?_ | refine AWP.exit ?_)); refine AWP.region hX hK_ok rfl ?_ ?_
  · trivial
  have m0 : (0 : Int) ≤ min (((l.length : Nat) : Int)) 10 := by omega
  have m1 : min (((l.length : Nat) : Int)) 10 ≤ ((l.length : Nat) : Int) := by omega
  (repeat (first | refine AWP.seq ?_ | refine AWP.skip ?_ | refine AWP.block ?_ | refine AWP.exit ?_)); refine AWP.region hX hK_ok rfl ?_ ?_
  · repeat' (first | exact trivial | assumption | exact m0 | exact m1 | (refine ⟨?_, ?_⟩) | (intro _) | exact Nat.le_of_ble_eq_true rfl | exact Int.natCast_nonneg _ | (simp_all [allP]; done))
  exact AWP.ret ⟨.inr rfl, done1 rfl trivial rfl rfl rfl⟩
def kLb : Kn := { pK with C := [(14, cSanity), (15, cRaw), (16, cFew), (17, cValid), (18, cValid), (19, cGrainP), (20, cGrain), (21, cBookP), (22, cBook), (23, cMoveP), (24, cMove)] }
theorem kLb_ok : KnOk Tryz.prog pH kLb := hK_ok.with (.cons sanity_ok <| .cons raw_ok <| .cons few_ok <| .cons valid_ok.lift <| .cons rvalid_ok.lift <| .cons grain_ok.lift <| .cons rgrain_ok.lift <| .cons book_ok.lift <| .cons rbook_ok.lift <| .cons move_ok.lift <| .cons rmove_ok.lift .nil)
set_option maxHeartbeats 1000000 in
theorem law1_ok : CtrOk Tryz.prog pH 3 (lawCtr [po, who, i64]) := by
  refine ctr_of_awp (K := kLb) kLb_ok Tryz.func3 rfl rfl Tryz.call3 rfl (by decide) (by intro h; cases h) ?_
  rintro w0 X hX ⟨⟨(l : List Gt), _⟩, ⟨(person : Int), (teams : List Int), _⟩, (rank : Int), _⟩ hp
  change AWP _ _ _ _ _ ⟨[(0, ⟨po, (l, ())⟩), (1, ⟨who, (person, teams, ())⟩), (2, ⟨i64, rank⟩)], [], 0⟩ _
  (repeat (first | refine AWP.seq ?_ | refine AWP.skip ?_ | refine AWP.block ?_ | refine AWP.exit ?_)); refine AWP.region hX kLb_ok rfl ?_ ?_
  · trivial
  (repeat (first | refine AWP.seq ?_ | refine AWP.skip ?_ | refine AWP.block ?_ | refine AWP.exit ?_)); refine AWP.region hX kLb_ok rfl ?_ ?_
  · trivial
  (repeat (first | refine AWP.seq ?_ | refine AWP.skip ?_ | refine AWP.block ?_ | refine AWP.exit ?_)); refine AWP.region hX kLb_ok rfl ?_ ?_
  · trivial
  (repeat (first | refine AWP.seq ?_ | refine AWP.skip ?_ | refine AWP.block ?_ | refine AWP.exit ?_)); refine AWP.region hX kLb_ok rfl ?_ ?_
  · trivial
  (repeat (first | refine AWP.seq ?_ | refine AWP.skip ?_ | refine AWP.block ?_ | refine AWP.exit ?_)); refine AWP.draw dM hX kLb_ok 46 (by kernel_rfl) rfl rfl ?_ ?_ ?_
  · repeat' (first | exact trivial | assumption | (refine ⟨?_, ?_⟩) | (intro _) | exact Nat.le_of_ble_eq_true rfl | exact Int.natCast_nonneg _ | (simp_all [allP]; done))
  · trivial
  refine AWP.ret ⟨.inr rfl, done1 rfl trivial rfl rfl ?_⟩
  exact bif_true (bif_true (bif_true (bif_true (eqb_iff.2 rfl) (beq_self_eq_true (α := Int) _)) (eqb_iff.2 rfl)) (eqb_iff.2 rfl)) rfl
end Go.Proofs.YthkhgpbjfcmopaaGreatDoor
