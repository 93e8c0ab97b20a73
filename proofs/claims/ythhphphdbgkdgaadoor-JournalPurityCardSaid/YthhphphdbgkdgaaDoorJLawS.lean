/-
  The statements of chapter 23, what they share: sanity.
-/
import Derived.Test.YthhphphdbgkdgaaDoorJLawA
namespace Go.Proofs.YthhphphdbgkdgaaDoor
open Go Go.RowKit
set_option linter.unusedSimpArgs false
set_option linter.unusedVariables false
set_option maxRecDepth 100000
theorem bif_true {a b : Bool} (ha : a = true) (hb : b = true) : (bif a then b else false) = true := by subst ha; subst hb; rfl
def sL1 : Lg := (appendS zLog [97, 98]).1
def sL2 : Lg := (syncS sL1).1
def sL3 : Lg := (appendS sL2 [99]).1
def sC : Lg := (crashS sL3 (12, -1, 0, ())).1
theorem f1 : (appendS zLog [97, 98]).2.1 = 0 := by decide +kernel
theorem f2 : (syncS sL1).2.1 = 0 := by decide +kernel
theorem f3 : (appendS sL2 [99]).2.1 = 0 := by decide +kernel
theorem f4 : (crashS sL3 (12, -1, 0, ())).2.1 = 0 := by decide +kernel
theorem f5 : recordsS sC = ([[97, 98]], 14, 0, ()) := by decide +kernel
theorem f6 : (appendS sC []).2.1 = 10 := by decide +kernel
theorem f7 : sC.1.length = 26 := by decide +kernel
theorem f8 : sL1.1.length = 14 ∧ sL2.1.length = 14 ∧ sL3.1.length = 27 := by decide +kernel
def kLs : Kn := { dK with C := [(10, cAppendS 1100000), (11, cSync), (8, cCrash), (7, cRecords)] }
theorem kLs_ok : KnOk Tryd.prog dG kLs := dK_ok.with (.cons append_ok <| .cons sync_ok <| .cons crash_ok <| .cons records_ok .nil)
def cSanity : Ctr := { args := [], pre := fun _ => [], res := .bool, own := none, out := fun _ => true }
theorem sanity_ok : CtrOk Tryd.prog dG 4 cSanity := by
  refine ctr_of_awp (K := kLs) kLs_ok Tryd.func4 rfl rfl Tryd.call4 rfl (by decide) (by intro h; cases h) ?_
  rintro w0 X hX _ hp
  change AWP _ _ _ _ _ ⟨[], [], 0⟩ _
  (repeat (first | refine AWP.seq ?_ | refine AWP.skip ?_ | refine AWP.block ?_ | refine AWP.exit ?_)); refine AWP.region hX kLs_ok rfl ?_ ?_
  · trivial
  (repeat (first | refine AWP.seq ?_ | refine AWP.skip ?_ | refine AWP.block ?_ | refine AWP.exit ?_)); refine AWP.region hX kLs_ok rfl ?_ ?_
  · exact ⟨Nat.le_of_ble_eq_true rfl, Nat.le_of_ble_eq_true rfl, Nat.le_of_ble_eq_true rfl⟩
  refine AWP.fit (σ' := ⟨[(1, ⟨.optr jl, ⟨1, jl, .here⟩⟩), (2, ⟨i64, (0 : Int)⟩)], [(1, some (.box jl sL1))], 2⟩) ⟨⟨rfl, vI64 f1, trivial⟩, ⟨boxEq rfl, trivial⟩, rfl, rfl⟩ ?_
  have b1 : sL1.1.length ≤ 1100000 := by have := f8.1; omega
  have b2 : sL2.1.length ≤ 1100000 := by have := f8.2.1; omega
  have b3 : sL3.1.length ≤ 1100000 := by have := f8.2.2; omega
  have b4 : sC.1.length ≤ 1100000 := by have := f7; omega
  (repeat (first | refine AWP.seq ?_ | refine AWP.skip ?_ | refine AWP.block ?_ | refine AWP.exit ?_)); refine AWP.region hX kLs_ok rfl ?_ ?_
  · exact b1
  refine AWP.fit (σ' := ⟨[(1, ⟨.optr jl, ⟨1, jl, .here⟩⟩), (2, ⟨i64, (0 : Int)⟩), (3, ⟨i64, (0 : Int)⟩)], [(1, some (.box jl sL2))], 2⟩) ⟨⟨rfl, rfl, vI64 f2, trivial⟩, ⟨boxEq rfl, trivial⟩, rfl, rfl⟩ ?_
  (repeat (first | refine AWP.seq ?_ | refine AWP.skip ?_ | refine AWP.block ?_ | refine AWP.exit ?_)); refine AWP.region hX kLs_ok rfl ?_ ?_
  · exact ⟨Nat.le_of_ble_eq_true rfl, b2, Nat.le_of_ble_eq_true rfl⟩
  refine AWP.fit (σ' := ⟨[(1, ⟨.optr jl, ⟨1, jl, .here⟩⟩), (2, ⟨i64, (0 : Int)⟩), (3, ⟨i64, (0 : Int)⟩), (4, ⟨i64, (0 : Int)⟩)], [(1, some (.box jl sL3))], 3⟩) ⟨⟨rfl, rfl, rfl, vI64 f3, trivial⟩, ⟨boxEq rfl, trivial⟩, rfl, rfl⟩ ?_
  (repeat (first | refine AWP.seq ?_ | refine AWP.skip ?_ | refine AWP.block ?_ | refine AWP.exit ?_)); refine AWP.region hX kLs_ok rfl ?_ ?_
  · exact b3
  refine AWP.fit (σ' := ⟨[(2, ⟨i64, (0 : Int)⟩), (3, ⟨i64, (0 : Int)⟩), (4, ⟨i64, (0 : Int)⟩), (5, ⟨.optr jl, ⟨3, jl, .here⟩⟩), (6, ⟨i64, (0 : Int)⟩)], [(3, some (.box jl sC))], 4⟩) ⟨⟨rfl, rfl, rfl, rfl, vI64 f4, trivial⟩, ⟨boxEq rfl, trivial⟩, rfl, rfl⟩ ?_
  (repeat (first | refine AWP.seq ?_ | refine AWP.skip ?_ | refine AWP.block ?_ | refine AWP.exit ?_)); refine AWP.region hX kLs_ok rfl ?_ ?_
  · exact b4
  refine AWP.fit (σ' := ⟨[(2, ⟨i64, (0 : Int)⟩), (3, ⟨i64, (0 : Int)⟩), (4, ⟨i64, (0 : Int)⟩), (5, ⟨.optr jl, ⟨3, jl, .here⟩⟩), (6, ⟨i64, (0 : Int)⟩), (7, ⟨.slice bs, [[97, 98]]⟩), (8, ⟨i64, (14 : Int)⟩), (9, ⟨i64, (0 : Int)⟩)], [(3, some (.box jl sC))], 4⟩) ⟨⟨rfl, rfl, rfl, rfl, rfl, vSs (congrArg (fun z => z.1) f5), vI64 (congrArg (fun z => z.2.1) f5), vI64 (congrArg (fun z => z.2.2.1) f5), trivial⟩, ⟨rfl, trivial⟩, rfl, rfl⟩ ?_
  (repeat (first | refine AWP.seq ?_ | refine AWP.skip ?_ | refine AWP.block ?_ | refine AWP.exit ?_)); refine AWP.region hX kLs_ok rfl ?_ ?_
  · exact ⟨b4, Nat.le_of_ble_eq_true rfl⟩
  refine AWP.fit (σ' := ⟨[(2, ⟨i64, (0 : Int)⟩), (3, ⟨i64, (0 : Int)⟩), (4, ⟨i64, (0 : Int)⟩), (5, ⟨.optr jl, ⟨3, jl, .here⟩⟩), (6, ⟨i64, (0 : Int)⟩), (7, ⟨.slice bs, [[97, 98]]⟩), (8, ⟨i64, (14 : Int)⟩), (9, ⟨i64, (0 : Int)⟩), (11, ⟨i64, (10 : Int)⟩)], [(3, some (.box jl sC))], 5⟩) ⟨⟨rfl, rfl, rfl, rfl, rfl, rfl, rfl, rfl, vI64 f6, trivial⟩, ⟨rfl, trivial⟩, rfl, rfl⟩ ?_
  have h26 : sC.1.length = 26 := f7
  generalize sC = c at *
  (repeat (first | refine AWP.seq ?_ | refine AWP.skip ?_ | refine AWP.block ?_ | refine AWP.exit ?_)); refine AWP.region hX kLs_ok rfl ?_ ?_
  · trivial
  refine AWP.cond rfl (fun hb => ?_) (fun hb => ?_)
  · exact absurd hb (by decide)
  (repeat (first | refine AWP.seq ?_ | refine AWP.skip ?_ | refine AWP.block ?_ | refine AWP.exit ?_)); refine AWP.region hX kLs_ok rfl ?_ ?_
  · repeat' (first | exact trivial | assumption | (refine ⟨?_, ?_⟩) | (intro _) | exact Nat.le_of_ble_eq_true rfl | exact Int.natCast_nonneg _ | decide)
  refine AWP.ret ⟨.inr rfl, done1 rfl trivial rfl rfl ?_⟩
  have e1 : (((c.1.length : Nat) : Int) == 26) = true := by rw [h26]; rfl
  have e2 : eqb .str (([[97, 98]] : List (List UInt8)).getD (Int.toNat 0) (zeroX bs)) [97, 98] = true := eqb_iff.2 rfl
  exact bif_true (bif_true (bif_true rfl e1) rfl) e2
end Go.Proofs.YthhphphdbgkdgaaDoor
