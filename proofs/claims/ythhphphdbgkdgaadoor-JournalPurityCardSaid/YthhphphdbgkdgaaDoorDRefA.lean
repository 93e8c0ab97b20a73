/-
  The digest reference, first part: digits, rotations, the schedule, the encoding of lists.
-/
import Derived.Test.YthhphphdbgkdgaaDoorDKn
import Derived.Test.YthhphphdbgkdgaaDoorShaSpec
namespace Go.Proofs.YthhphphdbgkdgaaDoor
open Go Go.RowKit
set_option linter.unusedSimpArgs false
set_option linter.unusedVariables false
set_option maxRecDepth 100000
def cDigit : Ctr := { args := [u8], pre := fun x => [], res := i64, own := none, out := fun x => if 48 ≤ x.1.toNat ∧ x.1.toNat ≤ 57 then (x.1.toNat : Int) - 48 else if 97 ≤ x.1.toNat ∧ x.1.toNat ≤ 102 then (x.1.toNat : Int) - 87 else if 65 ≤ x.1.toNat ∧ x.1.toNat ≤ 70 then (x.1.toNat : Int) - 55 else -1 }
def cEncoding : Ctr := { args := [.slice bs], pre := fun x => [(encoding x.1).length ≤ 2000000], res := bs, own := some 5, out := fun x => encoding x.1 }
theorem encoding_snoc (l : List (List UInt8)) (b : List UInt8) : encoding (l ++ [b]) = encoding l ++ (le64 b.length ++ b) := by simp [encoding]
theorem encoding_take_len (l : List (List UInt8)) (i : Nat) : (encoding (l.take i)).length ≤ (encoding l).length := by
  have := List.take_append_drop i l
  have h2 : encoding l = encoding (l.take i) ++ encoding (l.drop i) := by
    conv => lhs; rw [← this]
    simp only [encoding, List.flatMap_append]
  rw [h2, List.length_append]; omega
theorem le64_snoc (n k : Nat) (hk : k < 8) (h : n < 2 ^ 63) : (le64 n).take (k + 1) = (le64 n).take k ++ [UInt8.ofNat (BitVec.toNat (BitVec.ofInt 64 (n : Int) >>> (8 * (k : Int)).toNat))] := by
  unfold le64
  rw [List.take_succ_eq_append_getElem (by simp; omega)]
  congr 2
  simp only [List.getElem_map, List.getElem_range, BitVec.toNat_ushiftRight, Nat.shiftRight_eq_div_pow]
  congr 2
  · rw [BitVec.toNat_ofInt]; omega
def cTurn : Ctr := { args := [u32, i64], pre := fun x => [0 < x.2.1, x.2.1 < 32], res := u32, own := none, out := fun x => rotr x.1 x.2.1.toNat }
def schedL (b : List UInt8) (k : Nat) : List (BitVec 32) := sched b k ++ List.replicate (64 - k) 0
theorem schedL_len (b : List UInt8) (k : Nat) (hk : k ≤ 64) : (schedL b k).length = 64 := by simp [schedL, sched_length]; omega
theorem schedL_get (b : List UInt8) (k j : Nat) (hj : j < k) (d : BitVec 32) : (schedL b k).getD j d = (sched b k).getD j 0 := by
  have hl := sched_length b k
  simp [schedL, List.getD, List.getElem?_append, hl, hj]
theorem schedL_set (b : List UInt8) (k : Nat) (hk : k < 64) : (schedL b k).set k (schedNext b (sched b k)) = schedL b (k + 1) := by
  have hl := sched_length b k
  have e : 64 - k = (64 - (k + 1)) + 1 := by omega
  simp only [schedL, sched]
  rw [e, List.replicate_succ, List.set_append_right _ _ (by omega)]
  simp [hl]
theorem be32_add (a b c d : UInt8) : (BitVec.ofNat 32 a.toNat <<< 24) + (BitVec.ofNat 32 b.toNat <<< 16) + (BitVec.ofNat 32 c.toNat <<< 8) + BitVec.ofNat 32 d.toNat = be32 a b c d := by
  unfold be32 w8
  have ha := a.toNat_lt; have hb := b.toNat_lt; have hc := c.toNat_lt; have hd := d.toNat_lt
  generalize a.toNat = a at *
  generalize b.toNat = b at *
  generalize c.toNat = c at *
  generalize d.toNat = d at *
  apply BitVec.eq_of_toNat_eq
  have or1 : (a * 16777216 ||| b * 65536) = a * 16777216 + b * 65536 := by
    have := Nat.two_pow_add_eq_or_of_lt (show b * 65536 < 2 ^ 24 by omega) a
    rw [Nat.mul_comm a 16777216]; rw [← this]
  have or2 : (a * 16777216 + b * 65536 ||| c * 256) = a * 16777216 + b * 65536 + c * 256 := by
    have := Nat.two_pow_add_eq_or_of_lt (show c * 256 < 2 ^ 16 by omega) (a * 256 + b)
    rw [show a * 16777216 + b * 65536 = 2 ^ 16 * (a * 256 + b) by omega, ← this]
  have or3 : (a * 16777216 + b * 65536 + c * 256 ||| d) = a * 16777216 + b * 65536 + c * 256 + d := by
    have := Nat.two_pow_add_eq_or_of_lt (show d < 2 ^ 8 by omega) (a * 65536 + b * 256 + c)
    rw [show a * 16777216 + b * 65536 + c * 256 = 2 ^ 8 * (a * 65536 + b * 256 + c) by omega, ← this]
  simp only [BitVec.toNat_add, BitVec.toNat_or, BitVec.toNat_shiftLeft, BitVec.toNat_ofNat, Nat.shiftLeft_eq]
  rw [show a % 2 ^ 32 * 2 ^ 24 % 2 ^ 32 = a * 16777216 by omega, show b % 2 ^ 32 * 2 ^ 16 % 2 ^ 32 = b * 65536 by omega, show c % 2 ^ 32 * 2 ^ 8 % 2 ^ 32 = c * 256 by omega, show d % 2 ^ 32 = d by omega, or1, or2, or3]
  omega
def cExpand : Ctr := { args := [bs], pre := fun x => [List.length x.1 = 64], res := .arr 64 u32, own := none, out := fun x => sched x.1 64 }
end Go.Proofs.YthhphphdbgkdgaaDoor
