/-
  The digest reference, fourth part: Bytes, Block, Keyed, Fields, Hex, Unhex, SameLists.
-/
import Derived.Test.YthhphphdbgkdgaaDoorDRefC
namespace Go.Proofs.YthhphphdbgkdgaaDoor
open Go Go.RowKit
set_option linter.unusedSimpArgs false
set_option linter.unusedVariables false
set_option maxRecDepth 100000
theorem take_snocD (l : List UInt8) (k : Nat) (h : k < l.length) (d : UInt8) : l.take (k + 1) = l.take k ++ [l.getD k d] := by
  rw [List.take_succ_eq_append_getElem h]; simp [List.getD, List.getElem?_eq_getElem h]
def cBytes : Ctr := { args := [dg], pre := fun _ => [], res := bs, own := some 5, out := fun x => x.1 }
def cBlock : Ctr := { args := [dg, u8], pre := fun _ => [], res := bs, own := some 5, out := fun x => keyBlock x.1 x.2.1 }
def cRKeyed : Ctr := { args := [dg, bs], pre := fun x => [List.length x.2.1 ≤ 900000], res := dg, own := none, out := fun x => hmac x.1 x.2.1 }
theorem keyBlock_len (d : List UInt8) (b : UInt8) (h : d.length = 32) : (keyBlock d b).length = 64 := by simp [keyBlock, h]
def cRFields : Ctr := { args := [.slice bs], pre := fun x => [(encoding x.1).length ≤ 2000000], res := dg, own := none, out := fun x => fields x.1 }
/-! ### hexadecimal digits -/
def hexStr : List UInt8 := [48, 49, 50, 51, 52, 53, 54, 55, 56, 57, 97, 98, 99, 100, 101, 102]
theorem hexStr_get (n : Nat) (h : n < 16) : hexStr.getD n 0 = hexDigit n := by
  rcases (by omega : n = 0 ∨ n = 1 ∨ n = 2 ∨ n = 3 ∨ n = 4 ∨ n = 5 ∨ n = 6 ∨ n = 7 ∨ n = 8 ∨ n = 9 ∨ n = 10 ∨ n = 11 ∨ n = 12 ∨ n = 13 ∨ n = 14 ∨ n = 15) with rfl | rfl | rfl | rfl | rfl | rfl | rfl | rfl | rfl | rfl | rfl | rfl | rfl | rfl | rfl | rfl <;> rfl
theorem hex_snoc (l : List UInt8) (b : UInt8) : hex (l ++ [b]) = hex l ++ [hexDigit (b.toNat / 16), hexDigit (b.toNat % 16)] := by simp [hex]
theorem hex_len (l : List UInt8) : (hex l).length = 2 * l.length := by
  induction l with
  | nil => rfl
  | cons b l ih => simp only [hex, List.flatMap_cons, List.length_append, List.length_cons, List.length_nil] at *; omega
def cRHex : Ctr := { args := [dg], pre := fun _ => [], res := .str, own := none, out := fun x => hex x.1 }
def dig (c : UInt8) : Int := cDigit.out (c, ())
def goodAt (s : List UInt8) (j : Nat) : Bool := decide (0 ≤ dig (s.getD (2 * j) 0)) && decide (0 ≤ dig (s.getD (2 * j + 1) 0))
def byteAt (s : List UInt8) (j : Nat) : UInt8 := UInt8.ofNat ((16 * dig (s.getD (2 * j) 0) + dig (s.getD (2 * j + 1) 0)) % 256).toNat
def unhexS (s : List UInt8) : Option (List UInt8) := if s.length = 64 ∧ (List.range 32).all (goodAt s) = true then some ((List.range 32).map (byteAt s)) else none
def unhexR (s : List UInt8) : List UInt8 × Int × Unit := match unhexS s with
  | some d => (d, 0, ())
  | none => (List.replicate 32 0, 3, ())
theorem goodAt_iff {s : List UInt8} {j : Nat} : goodAt s j = true ↔ 0 ≤ dig (s.getD (2 * j) 0) ∧ 0 ≤ dig (s.getD (2 * j + 1) 0) := by
  unfold goodAt
  rw [Bool.and_eq_true, decide_eq_true_iff, decide_eq_true_iff]
theorem dig_bound (c : UInt8) : -1 ≤ dig c ∧ dig c ≤ 15 := by
  unfold dig cDigit
  simp only
  split
  · omega
  · split
    · omega
    · split <;> omega
def cRUnhex : Ctr := { args := [.str], pre := fun _ => [], res := .tup dg (.tup i64 .unit), own := none, out := fun x => unhexR x.1 }
def unL (s : List UInt8) (i : Nat) : List UInt8 := (List.range i).map (byteAt s) ++ List.replicate (32 - i) 0
theorem unL_set (s : List UInt8) (i : Nat) (h : i < 32) : (unL s i).set i (byteAt s i) = unL s (i + 1) := by
  unfold unL
  rw [List.set_append_right _ _ (by simp)]
  simp only [List.length_map, List.length_range, Nat.sub_self, List.range_succ, List.map_append, List.append_assoc, List.map_cons, List.map_nil]
  rw [show 32 - i = (32 - (i + 1)) + 1 by omega, List.replicate_succ]
  rfl
def sameL (a b : List (List UInt8)) : Bool := decide (a = b)
def cSame : Ctr := { args := [.slice bs, .slice bs], pre := fun _ => [], res := .bool, own := none, out := fun x => sameL x.1 x.2.1 }
end Go.Proofs.YthhphphdbgkdgaaDoor
