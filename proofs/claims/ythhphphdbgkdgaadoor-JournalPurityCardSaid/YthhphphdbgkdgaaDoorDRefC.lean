/-
  The digest reference, third part: padding, Sum, Bytes, Block, Keyed, Fields.
-/
import Derived.Test.YthhphphdbgkdgaaDoorDRefB
namespace Go.Proofs.YthhphphdbgkdgaaDoor
open Go Go.RowKit
set_option linter.unusedSimpArgs false
set_option linter.unusedVariables false
set_option maxRecDepth 100000
def cPadded : Ctr := { args := [bs], pre := fun x => [List.length x.1 ≤ 2000000], res := bs, own := some 5, out := fun x => pad x.1 }
theorem tmod64 (n : Nat) : ((n : Int)).tmod 64 = ((n % 64 : Nat) : Int) := rfl
theorem sizeByte_eq (n i : Nat) (h : n ≤ 2000000) (hi : i < 8) : UInt8.ofNat (BitVec.toNat ((BitVec.ofNat 64 8 * BitVec.ofInt 64 (n : Int)) >>> (8 * (i : Int)).toNat)) = sizeByte n i := by
  unfold sizeByte
  congr 1
  rw [BitVec.toNat_ushiftRight, Nat.shiftRight_eq_div_pow, BitVec.toNat_mul, BitVec.toNat_ofInt, BitVec.toNat_ofNat]
  rw [show (8 * (i : Int)).toNat = 8 * i by omega]
  congr 1
  omega
theorem be64_take (n j : Nat) (hj : j < 8) : (be64 n).take (j + 1) = (be64 n).take j ++ [sizeByte n (7 - j)] := by
  rcases (by omega : j = 0 ∨ j = 1 ∨ j = 2 ∨ j = 3 ∨ j = 4 ∨ j = 5 ∨ j = 6 ∨ j = 7) with rfl | rfl | rfl | rfl | rfl | rfl | rfl | rfl <;> rfl
def cRSum : Ctr := { args := [bs], pre := fun x => [List.length x.1 ≤ 2000000], res := dg, own := none, out := fun x => sha x.1 }
def digL (s : St) (i : Nat) : List UInt8 := (List.range i).map (digestByte s) ++ List.replicate (32 - i) 0
theorem digL_set (s : St) (i : Nat) (h : i < 32) : (digL s i).set i (digestByte s i) = digL s (i + 1) := by
  unfold digL
  rw [List.set_append_right _ _ (by simp)]
  simp only [List.length_map, List.length_range, Nat.sub_self, List.range_succ, List.map_append, List.append_assoc, List.map_cons, List.map_nil]
  rw [show 32 - i = (32 - (i + 1)) + 1 by omega, List.replicate_succ]
  rfl
theorem stOf_words (t : St) : stOf (stWords t) = t := rfl
end Go.Proofs.YthhphphdbgkdgaaDoor
