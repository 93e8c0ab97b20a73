/-
  Package digest, first part: the rotation of the library, the value of a digit, Hex, Unhex.
-/
import Derived.Test.YthhphphdbgkdgaaDoorDRefD
namespace Go.Proofs.YthhphphdbgkdgaaDoor
open Go Go.RowKit
set_option linter.unusedSimpArgs false
set_option linter.unusedVariables false
set_option maxRecDepth 100000
theorem and31b (k : Int) (h1 : -32 < k) (h2 : k < 0) : (BitVec.ofInt 64 k &&& BitVec.ofNat 64 31).toNat = (32 + k).toNat := by
  rw [BitVec.toNat_and, BitVec.toNat_ofInt, BitVec.toNat_ofNat]
  have e : (k % ((2 ^ 64 : Nat) : Int)).toNat = (18446744073709551616 + k).toNat := by
    congr 1
    omega
  rw [e]
  have : ∀ n : Nat, n &&& (31 % 2 ^ 64) = n % 32 := fun n => Nat.and_two_pow_sub_one_eq_mod n 5
  rw [this]
  omega
def cRot : Ctr := { args := [u32, i64], pre := fun x => [-32 < x.2.1, x.2.1 < 0], res := u32, own := none, out := fun x => rotr x.1 (-x.2.1).toNat }
theorem rot_ok : CtrOk Tryd.prog dG 25 cRot := by
  refine ctr_of_awp (K := dK) dK_ok Tryd.func25 rfl rfl Tryd.call25 rfl (by decide) (by intro h; cases h) ?_
  rintro w0 X hX ⟨(x : BitVec 32), (k : Int), _⟩ hp
  change AWP _ _ _ _ _ ⟨[(0, ⟨u32, x⟩), (1, ⟨i64, k⟩)], [], 0⟩ _
  obtain ⟨h1, h2⟩ : -32 < k ∧ k < 0 := hp
  (repeat (first | refine AWP.seq ?_ | refine AWP.skip ?_ | refine AWP.label ?_ | refine AWP.exit ?_ | refine AWP.block ?_ | refine AWP.region hX dK_ok rfl trivial ?_ | refine AWP.region hX dK_ok rfl id ?_ | refine AWP.region hX dK_ok rfl ⟨id, id⟩ ?_))
  (repeat (first | refine AWP.seq ?_ | refine AWP.skip ?_ | refine AWP.block ?_ | refine AWP.exit ?_)); refine AWP.region hX dK_ok rfl ?_ ?_
  · exact ⟨Int.natCast_nonneg _, Int.natCast_nonneg _⟩
  refine AWP.ret ⟨.inr rfl, done1 rfl trivial rfl rfl ?_⟩
  have ha := and31b k h1 h2
  show (x <<< (BitVec.ofInt 64 k &&& BitVec.ofNat 64 31).toNat) ||| (x >>> (BitVec.ofNat 64 32 - (BitVec.ofInt 64 k &&& BitVec.ofNat 64 31)).toNat) = rotr x (-k).toNat
  rw [BitVec.toNat_sub, ha]
  unfold rotr
  rw [BitVec.or_comm]
  congr 2
  · rw [BitVec.toNat_ofNat]; omega
  · omega
theorem test2 {p q : Prop} [Decidable p] [Decidable q] : (bif decide p then decide q else false) = true ↔ p ∧ q := by
  by_cases hp : p <;> simp [hp]
def valueR (c : UInt8) : UInt8 × Bool × Unit :=
  if 48 ≤ c.toNat ∧ c.toNat ≤ 57 then (c - 48, true, ())
  else if 97 ≤ c.toNat ∧ c.toNat ≤ 102 then (c - 97 + 10, true, ())
  else if 65 ≤ c.toNat ∧ c.toNat ≤ 70 then (c - 65 + 10, true, ())
  else (0, false, ())
def cValue : Ctr := { args := [u8], pre := fun _ => [], res := .tup u8 (.tup .bool .unit), own := none, out := fun x => valueR x.1 }
theorem dig_value (c : UInt8) : decide (0 ≤ dig c) = (valueR c).2.1 ∧ ((valueR c).2.1 = true → dig c = ((valueR c).1.toNat : Nat) ∧ (valueR c).1.toNat < 16) := by
  have hc := c.toNat_lt
  have sub (k : Nat) (h : k ≤ c.toNat) : (c - UInt8.ofNat k).toNat = c.toNat - k := by
    rw [UInt8.toNat_sub_of_le _ _ (by rw [UInt8.le_iff_toNat_le, UInt8.toNat_ofNat']; omega), UInt8.toNat_ofNat']
    omega
  have add10 (x : UInt8) (h : x.toNat < 6) : (x + 10).toNat = x.toNat + 10 := by
    rw [UInt8.toNat_add]
    show (x.toNat + 10) % 256 = _
    omega
  unfold dig cDigit valueR
  simp only
  split
  · rename_i h
    have e := sub 48 h.1
    refine ⟨by simp only [decide_eq_true_iff]; omega, fun _ => ?_⟩
    show _ = (((c - UInt8.ofNat 48).toNat : Nat) : Int) ∧ (c - UInt8.ofNat 48).toNat < 16
    omega
  · split
    · rename_i h
      have e := sub 97 h.1
      have e2 := add10 (c - UInt8.ofNat 97) (by omega)
      refine ⟨by simp only [decide_eq_true_iff]; omega, fun _ => ?_⟩
      show _ = (((c - UInt8.ofNat 97 + 10).toNat : Nat) : Int) ∧ (c - UInt8.ofNat 97 + 10).toNat < 16
      omega
    · split
      · rename_i h
        have e := sub 65 h.1
        have e2 := add10 (c - UInt8.ofNat 65) (by omega)
        refine ⟨by simp only [decide_eq_true_iff]; omega, fun _ => ?_⟩
        show _ = (((c - UInt8.ofNat 65 + 10).toNat : Nat) : Int) ∧ (c - UInt8.ofNat 65 + 10).toNat < 16
        omega
      · exact ⟨rfl, fun h => by cases h⟩
theorem byteAt_value (s : List UInt8) (i : Nat) (h0 : (valueR (s.getD (2 * i) 0)).2.1 = true) (h1 : (valueR (s.getD (2 * i + 1) 0)).2.1 = true) : UInt8.ofNat ((valueR (s.getD (2 * i) 0)).1.toNat <<< 4) ||| (valueR (s.getD (2 * i + 1) 0)).1 = byteAt s i := by
  obtain ⟨d0, l0⟩ := (dig_value _).2 h0
  obtain ⟨d1, l1⟩ := (dig_value _).2 h1
  unfold byteAt
  rw [d0, d1]
  generalize (valueR (s.getD (2 * i) 0)).1 = x at *
  generalize (valueR (s.getD (2 * i + 1) 0)).1 = y at *
  have hs : x.toNat <<< 4 = 16 * x.toNat := by rw [Nat.shiftLeft_eq]; omega
  have ho : x.toNat <<< 4 ||| y.toNat = 16 * x.toNat + y.toNat := by rw [← Nat.shiftLeft_add_eq_or_of_lt (show y.toNat < 2 ^ 4 by omega), hs]
  have hb : ((16 * (x.toNat : Int) + (y.toNat : Int)) % 256).toNat = 16 * x.toNat + y.toNat := by omega
  apply UInt8.toNat_inj.1
  rw [UInt8.toNat_or, UInt8.toNat_ofNat', UInt8.toNat_ofNat', Nat.mod_eq_of_lt (show x.toNat <<< 4 < 2 ^ 8 by omega), ho, hb, Nat.mod_eq_of_lt (by omega)]
def kA : Kn := { dK with C := [(25, cRot)] }
theorem kA_ok : KnOk Tryd.prog dG kA := dK_ok.with (CsOk.cons rot_ok CsOk.nil)
def cHex : Ctr := { args := [dg], pre := fun _ => [], res := .str, own := none, out := fun x => hex x.1 }
def cUnhex : Ctr := { args := [.str], pre := fun _ => [], res := .tup dg (.tup i64 .unit), own := none, out := fun x => unhexR x.1 }
end Go.Proofs.YthhphphdbgkdgaaDoor
