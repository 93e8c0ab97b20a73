/-
  The statements of chapter 03: the laws answer true (second part).
-/
import Derived.Test.YtpepbnieocdpbaaDoorDLawB
namespace Go.Proofs.YtpepbnieocdpbaaDoor
open Go Go.RowKit
set_option linter.unusedSimpArgs false
set_option linter.unusedVariables false
set_option maxRecDepth 100000
theorem encoding_cons (b : List UInt8) (l : List (List UInt8)) : encoding (b :: l) = le64 b.length ++ (b ++ encoding l) := by
  show le64 b.length ++ b ++ encoding l = _
  rw [List.append_assoc]
theorem split_dig (x : List UInt8) (i k : Int) : eqb .bool (eqb dg (fields [x.take i.toNat, x.drop i.toNat]) (fields [x.take k.toNat, x.drop k.toNat])) (bif (i == k) then true else eqb dg (fields [x.take i.toNat, x.drop i.toNat]) (fields [x.take k.toNat, x.drop k.toNat])) = true := by
  rw [eqb_iff]
  by_cases h : i = k
  · subst h
    rw [eqb_self, beq_self_eq_true]
    rfl
  · rw [show (i == k) = false from by simpa using h]
    rfl
theorem enc2 (x : List UInt8) (i : Nat) : (encoding [x.take i, x.drop i]).length ≤ x.length + 16 := by
  rw [encoding_cons, encoding_cons]
  simp [encoding, le64]
  omega
theorem enc1 (x : List UInt8) : (encoding [x]).length ≤ x.length + 8 := by
  rw [encoding_cons]
  simp [encoding, le64]
  omega
theorem vI64 {x y : Int} (h : x = y) : (⟨i64, x⟩ : V) = ⟨i64, y⟩ := by rw [h]
theorem law6_ok : CtrOk Tryd.prog dG 8 (lawCtr [bs, u8, u8]) := by
  refine ctr_of_awp (K := kW) kW_ok Tryd.func8 rfl rfl Tryd.call8 rfl (by decide) (by intro h; cases h) ?_
  rintro w0 X hX ⟨(b : List UInt8), (ai : UInt8), (ti : UInt8), _⟩ hp
  change AWP _ _ _ _ _ ⟨[(0, ⟨bs, b⟩), (1, ⟨u8, ai⟩), (2, ⟨u8, ti⟩)], [], 0⟩ _
  have h1 := take_le b 100
  (repeat (first | refine AWP.seq ?_ | refine AWP.skip ?_ | refine AWP.block ?_ | refine AWP.exit ?_)); refine AWP.region hX kW_ok rfl ?_ ?_
  · trivial
  (repeat (first | refine AWP.seq ?_ | refine AWP.skip ?_ | refine AWP.block ?_ | refine AWP.exit ?_)); refine AWP.region hX kW_ok rfl ?_ ?_
  · trivial
  (repeat (first | refine AWP.seq ?_ | refine AWP.skip ?_ | refine AWP.block ?_ | refine AWP.exit ?_)); refine AWP.region hX kW_ok rfl ?_ ?_
  · exact ⟨by show (0 : Int) ≤ 100; omega, by show (100 : Int) ≤ 1000000; omega⟩
  have ha := ai.toNat_lt
  have ht := ti.toNat_lt
  have d1 : ((b.take 100).length : Int) + 1 ≠ 0 := by omega
  have d2 : inR .i64 (((b.take 100).length : Int) + 1) := inR_small (by omega) (by omega)
  (repeat (first | refine AWP.seq ?_ | refine AWP.skip ?_ | refine AWP.block ?_ | refine AWP.exit ?_)); refine AWP.draw dM hX kW_ok 14 (by kernel_rfl) rfl rfl ?_ ?_ ?_
  · exact ⟨d2, d1, d2, d1⟩
  · trivial
  obtain ⟨i, hi, hil, hin⟩ : ∃ i : Int, i = (ai.toNat : Int).tmod (((b.take 100).length : Int) + 1) ∧ 0 ≤ i ∧ i ≤ ((b.take 100).length : Int) := ⟨_, rfl, Int.tmod_nonneg _ (by omega), by have := Int.tmod_lt_of_pos (ai.toNat : Int) (show (0 : Int) < ((b.take 100).length : Int) + 1 by omega); omega⟩
  obtain ⟨k, hk, hkl, hkn⟩ : ∃ k : Int, k = (ti.toNat : Int).tmod (((b.take 100).length : Int) + 1) ∧ 0 ≤ k ∧ k ≤ ((b.take 100).length : Int) := ⟨_, rfl, Int.tmod_nonneg _ (by omega), by have := Int.tmod_lt_of_pos (ti.toNat : Int) (show (0 : Int) < ((b.take 100).length : Int) + 1 by omega); omega⟩
  refine AWP.fit (σ' := ⟨[(6, ⟨.bool, false⟩), (7, ⟨.bool, true⟩), (8, ⟨bs, b.take 100⟩), (9, ⟨i64, i⟩), (10, ⟨i64, k⟩)], [], 0⟩) ⟨⟨rfl, rfl, rfl, vI64 hi.symm, vI64 hk.symm, trivial⟩, trivial, rfl, rfl⟩ ?_
  (repeat (first | refine AWP.seq ?_ | refine AWP.skip ?_ | refine AWP.block ?_ | refine AWP.exit ?_)); refine AWP.draw dM hX kW_ok 19 (by kernel_rfl) rfl rfl ?_ ?_ ?_
  · exact ⟨hil, hin, hil, hin, hkl, hkn, hkl, hkn⟩
  · trivial
  refine AWP.fit (σ' := ⟨[(6, ⟨.bool, false⟩), (7, ⟨.bool, true⟩), (9, ⟨i64, i⟩), (10, ⟨i64, k⟩), (11, ⟨.slice bs, [(b.take 100).take i.toNat, (b.take 100).drop i.toNat]⟩), (12, ⟨.slice bs, [(b.take 100).take k.toNat, (b.take 100).drop k.toNat]⟩), (13, ⟨.slice bs, [b.take 100]⟩)], [], 0⟩) ⟨⟨rfl, rfl, rfl, rfl, rfl, rfl, rfl, trivial⟩, trivial, rfl, rfl⟩ ?_
  have e1 := enc2 (b.take 100) i.toNat
  have e2 := enc2 (b.take 100) k.toNat
  have e3 := enc1 (b.take 100)
  have q1 : (encoding [(b.take 100).take i.toNat, (b.take 100).drop i.toNat]).length ≤ 2000000 := by omega
  have q2 : (encoding [(b.take 100).take k.toNat, (b.take 100).drop k.toNat]).length ≤ 2000000 := by omega
  have q3 : (encoding [b.take 100]).length ≤ 2000000 := by omega
  generalize b.take 100 = x at *
  (repeat (first | refine AWP.seq ?_ | refine AWP.skip ?_ | refine AWP.block ?_ | refine AWP.exit ?_)); refine AWP.region hX kW_ok rfl ?_ ?_
  · exact ⟨q1, q2, q3⟩
  (repeat (first | refine AWP.seq ?_ | refine AWP.skip ?_ | refine AWP.block ?_ | refine AWP.exit ?_)); refine AWP.draw dM hX kW_ok 29 (by kernel_rfl) rfl rfl ?_ ?_ ?_
  · repeat' (first | exact trivial | assumption | exact q1 | exact q2 | exact q3 | (refine ⟨?_, ?_⟩) | (intro _) | exact Nat.le_of_ble_eq_true rfl)
  · trivial
  refine AWP.ret ⟨.inr rfl, done1 rfl trivial rfl rfl ?_⟩
  refine bif_true (bif_true ?_ ?_) rfl
  · exact split_dig x i k
  · exact eqb_self _
end Go.Proofs.YtpepbnieocdpbaaDoor
