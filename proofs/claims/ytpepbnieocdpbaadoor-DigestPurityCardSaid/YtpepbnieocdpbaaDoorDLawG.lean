/-
  The statements of chapter 03: the laws answer true (fifth part).
-/
import Derived.Test.YtpepbnieocdpbaaDoorDLawC
namespace Go.Proofs.YtpepbnieocdpbaaDoor
open Go Go.RowKit
set_option linter.unusedSimpArgs false
set_option linter.unusedVariables false
set_option maxRecDepth 100000
theorem vBs {x y : List UInt8} (h : x = y) : (⟨bs, x⟩ : V) = ⟨bs, y⟩ := by rw [h]
theorem law9_ok : CtrOk Tryd.prog dG 11 (lawCtr [bs, bs, dg]) := by
  refine ctr_of_awp (K := kW) kW_ok Tryd.func11 rfl rfl Tryd.call11 rfl (by decide) (by intro h; cases h) ?_
  rintro w0 X hX ⟨(b : List UInt8), (c : List UInt8), (key : List UInt8), _⟩ hp
  change AWP _ _ _ _ _ ⟨[(0, ⟨bs, b⟩), (1, ⟨bs, c⟩), (2, ⟨dg, key⟩)], [], 0⟩ _
  have h1 := take_le b 200
  have h2 := take_le c 64
  (repeat (first | refine AWP.seq ?_ | refine AWP.skip ?_ | refine AWP.block ?_ | refine AWP.exit ?_)); refine AWP.region hX kW_ok rfl ?_ ?_
  · trivial
  (repeat (first | refine AWP.seq ?_ | refine AWP.skip ?_ | refine AWP.block ?_ | refine AWP.exit ?_)); refine AWP.region hX kW_ok rfl ?_ ?_
  · trivial
  (repeat (first | refine AWP.seq ?_ | refine AWP.skip ?_ | refine AWP.block ?_ | refine AWP.exit ?_)); refine AWP.region hX kW_ok rfl ?_ ?_
  · exact ⟨by show (0 : Int) ≤ 200; omega, by show (200 : Int) ≤ 1000000; omega, by show 0 + (b.take 200).length ≤ 1000000000; omega⟩
  have q0 : (b.take 200).length + (c.take 64).length ≤ 1000000000 := by omega
  have q1 : (b.take 200).length ≤ 2000000 := by omega
  have q2 : (b.take 200).length ≤ 1000000 := by omega
  refine AWP.fit (σ' := ⟨[(1, ⟨bs, c⟩), (5, ⟨.optr dg, ⟨0, dg, .here⟩⟩), (6, ⟨.bool, false⟩), (7, ⟨.bool, true⟩), (8, ⟨.obuf u8, (1 : Nat)⟩)], [(0, some (.box dg key)), (1, some (.buf 5 u8 (b.take 200)))], 2⟩) ⟨⟨rfl, rfl, rfl, rfl, rfl, trivial⟩, ⟨rfl, bufEq rfl, trivial⟩, rfl, rfl⟩ ?_
  generalize b.take 200 = x at *
  (repeat (first | refine AWP.seq ?_ | refine AWP.skip ?_ | refine AWP.block ?_ | refine AWP.exit ?_)); refine AWP.region hX kW_ok rfl ?_ ?_
  · trivial
  (repeat (first | refine AWP.seq ?_ | refine AWP.skip ?_ | refine AWP.block ?_ | refine AWP.exit ?_)); refine AWP.region hX kW_ok rfl ?_ ?_
  · exact ⟨by show (0 : Int) ≤ 64; omega, by show (64 : Int) ≤ 1000000; omega, q0⟩
  have q3 : 0 + (x ++ c.take 64).length ≤ 1000000000 := by rw [List.length_append]; omega
  (repeat (first | refine AWP.seq ?_ | refine AWP.skip ?_ | refine AWP.block ?_ | refine AWP.exit ?_)); refine AWP.region hX kW_ok rfl ?_ ?_
  · exact q3
  refine AWP.frz hX 10 ?_
  refine AWP.frz hX 11 ?_
  refine AWP.fit (σ' := ⟨[(5, ⟨.optr dg, ⟨0, dg, .here⟩⟩), (6, ⟨.bool, false⟩), (7, ⟨.bool, true⟩), (9, ⟨i64, ((x.length : Nat) : Int)⟩), (10, ⟨bs, x ++ c.take 64⟩), (11, ⟨bs, x ++ c.take 64⟩)], [(0, some (.box dg key))], 3⟩) ⟨⟨rfl, rfl, rfl, rfl, rfl, rfl, trivial⟩, ⟨rfl, trivial⟩, rfl, rfl⟩ ?_
  generalize c.take 64 = y at *
  have r1 : ((x.length : Nat) : Int) ≤ ((x ++ y).length : Nat) := by rw [List.length_append]; omega
  have r2 : List.take ((x.length : Nat) : Int).toNat (x ++ y) = x := by rw [Int.toNat_natCast, List.take_left]
  have r0 : (0 : Int) ≤ ((x.length : Nat) : Int) := Int.natCast_nonneg _
  have r3 : (List.take ((x.length : Nat) : Int).toNat (x ++ y)).length ≤ 2000000 := by rw [r2]; exact q1
  have r4 : (List.take ((x.length : Nat) : Int).toNat (x ++ y)).length ≤ 1000000 := by rw [r2]; exact q2
  (repeat (first | refine AWP.seq ?_ | refine AWP.skip ?_ | refine AWP.block ?_ | refine AWP.exit ?_)); refine AWP.drawN dM hX kW_ok 13 (by kernel_rfl) rfl rfl ?_ ?_ ?_
  · repeat' (first | exact trivial | assumption | exact r0 | exact r1 | exact r3 | exact r4 | (refine ⟨?_, ?_⟩) | (intro _) | exact Nat.le_of_ble_eq_true rfl)
  · repeat' (first | exact trivial | assumption | (refine ⟨?_, ?_⟩) | (intro _) | exact Nat.le_of_ble_eq_true rfl)
  refine AWP.fit (σ' := ⟨[(5, ⟨.optr dg, ⟨0, dg, .here⟩⟩), (6, ⟨.bool, false⟩), (7, ⟨.bool, true⟩), (9, ⟨i64, ((x.length : Nat) : Int)⟩), (10, ⟨bs, x ++ y⟩), (11, ⟨bs, x ++ y⟩), (12, ⟨.optr dg, ⟨3, dg, .here⟩⟩), (13, ⟨.optr dg, ⟨4, dg, .here⟩⟩)], [(0, some (.box dg key)), (3, some (.box dg (sha x))), (4, some (.box dg (hmac key x)))], 5⟩) ⟨⟨rfl, rfl, rfl, rfl, rfl, rfl, rfl, rfl, trivial⟩, ⟨rfl, boxEq (congrArg sha r2), boxEq (congrArg (hmac key) r2), trivial⟩, rfl, rfl⟩ ?_
  have r5 : (encoding [List.take ((x.length : Nat) : Int).toNat (x ++ y)]).length ≤ 2000000 := by have := enc1 (List.take ((x.length : Nat) : Int).toNat (x ++ y)); rw [r2] at *; omega
  (repeat (first | refine AWP.seq ?_ | refine AWP.skip ?_ | refine AWP.block ?_ | refine AWP.exit ?_)); refine AWP.region hX kW_ok rfl ?_ ?_
  · repeat' (first | exact trivial | assumption | exact r0 | exact r1 | exact r5 | (refine ⟨?_, ?_⟩) | (intro _) | exact Nat.le_of_ble_eq_true rfl)
  refine AWP.fit (σ' := ⟨[(5, ⟨.optr dg, ⟨0, dg, .here⟩⟩), (6, ⟨.bool, false⟩), (7, ⟨.bool, true⟩), (9, ⟨i64, ((x.length : Nat) : Int)⟩), (10, ⟨bs, x ++ y⟩), (11, ⟨bs, x ++ y⟩), (12, ⟨.optr dg, ⟨3, dg, .here⟩⟩), (13, ⟨.optr dg, ⟨4, dg, .here⟩⟩), (14, ⟨.optr dg, ⟨6, dg, .here⟩⟩)], [(0, some (.box dg key)), (3, some (.box dg (sha x))), (4, some (.box dg (hmac key x))), (6, some (.box dg (fields [x])))], 7⟩) ⟨⟨rfl, rfl, rfl, rfl, rfl, rfl, rfl, rfl, rfl, trivial⟩, ⟨rfl, rfl, rfl, boxEq (congrArg (fun z => fields [z]) r2), trivial⟩, rfl, rfl⟩ ?_
  have r6 : 0 + (List.take ((x.length : Nat) : Int).toNat (x ++ y)).length ≤ 1000000000 := by rw [r2]; omega
  (repeat (first | refine AWP.seq ?_ | refine AWP.skip ?_ | refine AWP.block ?_ | refine AWP.exit ?_)); refine AWP.region hX kW_ok rfl ?_ ?_
  · exact ⟨r0, r1, r6⟩
  refine AWP.frz hX 15 ?_
  refine AWP.fit (σ' := ⟨[(5, ⟨.optr dg, ⟨0, dg, .here⟩⟩), (6, ⟨.bool, false⟩), (7, ⟨.bool, true⟩), (10, ⟨bs, x ++ y⟩), (11, ⟨bs, x ++ y⟩), (12, ⟨.optr dg, ⟨3, dg, .here⟩⟩), (13, ⟨.optr dg, ⟨4, dg, .here⟩⟩), (14, ⟨.optr dg, ⟨6, dg, .here⟩⟩), (15, ⟨bs, x⟩)], [(0, some (.box dg key)), (3, some (.box dg (sha x))), (4, some (.box dg (hmac key x))), (6, some (.box dg (fields [x])))], 8⟩) ⟨⟨rfl, rfl, rfl, rfl, rfl, rfl, rfl, rfl, vBs r2, trivial⟩, ⟨rfl, rfl, rfl, rfl, trivial⟩, rfl, rfl⟩ ?_
  have r7 : (encoding [x]).length ≤ 2000000 := by rw [r2] at r5; exact r5
  (repeat (first | refine AWP.seq ?_ | refine AWP.skip ?_ | refine AWP.block ?_ | refine AWP.exit ?_)); refine AWP.draw dM hX kW_ok 29 (by kernel_rfl) rfl rfl ?_ ?_ ?_
  · repeat' (first | exact trivial | assumption | exact q1 | exact q2 | exact r7 | (refine ⟨?_, ?_⟩) | (intro _) | exact Nat.le_of_ble_eq_true rfl)
  · trivial
  refine AWP.ret ⟨.inr rfl, done1 rfl trivial rfl rfl ?_⟩
  exact bif_true (bif_true (bif_true (bif_true (eqb_self _) (eqb_self _)) (eqb_self _)) (eqb_self _)) rfl
end Go.Proofs.YtpepbnieocdpbaaDoor
