/-
  The digest reference, first part: digits, rotations, the schedule, the encoding of lists.
  The digest reference, second part: the compression function.
  The digest reference, third part: padding, Sum, Bytes, Block, Keyed, Fields.
  The digest reference, fourth part: Bytes, Block, Keyed, Fields, Hex, Unhex, SameLists.
-/
import Derived.Test.YtbbeldmcdjjnbaaDoorDKn
import Derived.Test.YtbbeldmcdjjnbaaDoorShaSpec
namespace Go.Proofs.YtbbeldmcdjjnbaaDoor
open Go Go.RowKit
set_option linter.unusedSimpArgs false
set_option linter.unusedVariables false
set_option maxRecDepth 100000
def cDigit : Ctr := { args := [u8], pre := fun x => [], res := i64, own := none, out := fun x => if 48 ≤ x.1.toNat ∧ x.1.toNat ≤ 57 then (x.1.toNat : Int) - 48 else if 97 ≤ x.1.toNat ∧ x.1.toNat ≤ 102 then (x.1.toNat : Int) - 87 else if 65 ≤ x.1.toNat ∧ x.1.toNat ≤ 70 then (x.1.toNat : Int) - 55 else -1 }
def cEncoding : Ctr := { args := [.slice bs], pre := fun x => [(encoding x.1).length ≤ 2000000], res := bs, own := some 5, out := fun x => encoding x.1 }
theorem encoding_snoc (l : List (List UInt8)) (b : List UInt8) : encoding (l ++ [b]) = encoding l ++ (le64 b.length ++ b) := by simp [encoding]
theorem encoding_take_len (l : List (List UInt8)) (i : Nat) : (encoding (l.take i)).length ≤ (encoding l).length := by
  have := List.take_append_drop i l
  have h2 : encoding l = encoding (l.take i) ++ encoding (l.drop i) := by
    conv => lhs; rw [← this]
    simp only [encoding, List.flatMap_append]
  rw [h2, List.length_append]; omega
theorem le64_snoc (n k : Nat) (hk : k < 8) (h : n < 2 ^ 63) : (le64 n).take (k + 1) = (le64 n).take k ++ [UInt8.ofNat (BitVec.toNat (BitVec.ofInt 64 (n : Int) >>> (8 * (k : Int)).toNat))] := by
  unfold le64
  rw [List.take_succ_eq_append_getElem (by simp; omega)]
  congr 2
  simp only [List.getElem_map, List.getElem_range, BitVec.toNat_ushiftRight, Nat.shiftRight_eq_div_pow]
  congr 2
  · rw [BitVec.toNat_ofInt]; omega
def cTurn : Ctr := { args := [u32, i64], pre := fun x => [0 < x.2.1, x.2.1 < 32], res := u32, own := none, out := fun x => rotr x.1 x.2.1.toNat }
def schedL (b : List UInt8) (k : Nat) : List (BitVec 32) := sched b k ++ List.replicate (64 - k) 0
theorem schedL_len (b : List UInt8) (k : Nat) (hk : k ≤ 64) : (schedL b k).length = 64 := by simp [schedL, sched_length]; omega
theorem schedL_get (b : List UInt8) (k j : Nat) (hj : j < k) (d : BitVec 32) : (schedL b k).getD j d = (sched b k).getD j 0 := by
  have hl := sched_length b k
  simp [schedL, List.getD, List.getElem?_append, hl, hj]
theorem schedL_set (b : List UInt8) (k : Nat) (hk : k < 64) : (schedL b k).set k (schedNext b (sched b k)) = schedL b (k + 1) := by
  have hl := sched_length b k
  have e : 64 - k = (64 - (k + 1)) + 1 := by omega
  simp only [schedL, sched]
  rw [e, List.replicate_succ, List.set_append_right _ _ (by omega)]
  simp [hl]
theorem be32_add (a b c d : UInt8) : (BitVec.ofNat 32 a.toNat <<< 24) + (BitVec.ofNat 32 b.toNat <<< 16) + (BitVec.ofNat 32 c.toNat <<< 8) + BitVec.ofNat 32 d.toNat = be32 a b c d := by
  unfold be32 w8
  have ha := a.toNat_lt; have hb := b.toNat_lt; have hc := c.toNat_lt; have hd := d.toNat_lt
  generalize a.toNat = a at *
  generalize b.toNat = b at *
  generalize c.toNat = c at *
  generalize d.toNat = d at *
  apply BitVec.eq_of_toNat_eq
  have or1 : (a * 16777216 ||| b * 65536) = a * 16777216 + b * 65536 := by
    have := Nat.two_pow_add_eq_or_of_lt (show b * 65536 < 2 ^ 24 by omega) a
    rw [Nat.mul_comm a 16777216]; rw [← this]
  have or2 : (a * 16777216 + b * 65536 ||| c * 256) = a * 16777216 + b * 65536 + c * 256 := by
    have := Nat.two_pow_add_eq_or_of_lt (show c * 256 < 2 ^ 16 by omega) (a * 256 + b)
    rw [show a * 16777216 + b * 65536 = 2 ^ 16 * (a * 256 + b) by omega, ← this]
  have or3 : (a * 16777216 + b * 65536 + c * 256 ||| d) = a * 16777216 + b * 65536 + c * 256 + d := by
    have := Nat.two_pow_add_eq_or_of_lt (show d < 2 ^ 8 by omega) (a * 65536 + b * 256 + c)
    rw [show a * 16777216 + b * 65536 + c * 256 = 2 ^ 8 * (a * 65536 + b * 256 + c) by omega, ← this]
  simp only [BitVec.toNat_add, BitVec.toNat_or, BitVec.toNat_shiftLeft, BitVec.toNat_ofNat, Nat.shiftLeft_eq]
  rw [show a % 2 ^ 32 * 2 ^ 24 % 2 ^ 32 = a * 16777216 by omega, show b % 2 ^ 32 * 2 ^ 16 % 2 ^ 32 = b * 65536 by omega, show c % 2 ^ 32 * 2 ^ 8 % 2 ^ 32 = c * 256 by omega, show d % 2 ^ 32 = d by omega, or1, or2, or3]
  omega
def cExpand : Ctr := { args := [bs], pre := fun x => [List.length x.1 = 64], res := .arr 64 u32, own := none, out := fun x => sched x.1 64 }
end Go.Proofs.YtbbeldmcdjjnbaaDoor
namespace Go.Proofs.YtbbeldmcdjjnbaaDoor
open Go Go.RowKit
set_option linter.unusedSimpArgs false
set_option linter.unusedVariables false
set_option maxRecDepth 100000
abbrev arr8 : Ty := .arr 8 u32
abbrev arr64 : Ty := .arr 64 u32
def cRounds : Ctr := { args := [], pre := fun _ => [], res := arr64, own := none, out := fun _ => roundK }
def stOf (l : List (BitVec 32)) : St := ⟨l.getD 0 0, l.getD 1 0, l.getD 2 0, l.getD 3 0, l.getD 4 0, l.getD 5 0, l.getD 6 0, l.getD 7 0⟩
def mixL (s t : List (BitVec 32)) (i : Nat) : List (BitVec 32) := (List.range 8).map fun j => if j < i then t.getD j 0 + s.getD j 0 else t.getD j 0
theorem mixL_set (s t : List (BitVec 32)) (i : Nat) (h : i < 8) : (mixL s t i).set i ((mixL s t i).getD i 0 + s.getD i 0) = mixL s t (i + 1) := by
  rcases (by omega : i = 0 ∨ i = 1 ∨ i = 2 ∨ i = 3 ∨ i = 4 ∨ i = 5 ∨ i = 6 ∨ i = 7) with rfl | rfl | rfl | rfl | rfl | rfl | rfl | rfl <;> rfl
theorem not_sub (x : BitVec 32) : BitVec.ofNat 32 4294967295 - x = ~~~ x := by
  apply BitVec.eq_of_toNat_eq
  have := x.isLt
  rw [BitVec.toNat_sub, BitVec.toNat_not, BitVec.toNat_ofNat]
  omega
def cStep : Ctr := { args := [arr8, bs], pre := fun x => [List.length x.2.1 = 64], res := arr8, own := none, out := fun x => stWords (compress (stOf x.1) x.2.1) }
end Go.Proofs.YtbbeldmcdjjnbaaDoor
namespace Go.Proofs.YtbbeldmcdjjnbaaDoor
open Go Go.RowKit
set_option linter.unusedSimpArgs false
set_option linter.unusedVariables false
set_option maxRecDepth 100000
def cPadded : Ctr := { args := [bs], pre := fun x => [List.length x.1 ≤ 2000000], res := bs, own := some 5, out := fun x => pad x.1 }
theorem tmod64 (n : Nat) : ((n : Int)).tmod 64 = ((n % 64 : Nat) : Int) := rfl
theorem sizeByte_eq (n i : Nat) (h : n ≤ 2000000) (hi : i < 8) : UInt8.ofNat (BitVec.toNat ((BitVec.ofNat 64 8 * BitVec.ofInt 64 (n : Int)) >>> (8 * (i : Int)).toNat)) = sizeByte n i := by
  unfold sizeByte
  congr 1
  rw [BitVec.toNat_ushiftRight, Nat.shiftRight_eq_div_pow, BitVec.toNat_mul, BitVec.toNat_ofInt, BitVec.toNat_ofNat]
  rw [show (8 * (i : Int)).toNat = 8 * i by omega]
  congr 1
  omega
theorem be64_take (n j : Nat) (hj : j < 8) : (be64 n).take (j + 1) = (be64 n).take j ++ [sizeByte n (7 - j)] := by
  rcases (by omega : j = 0 ∨ j = 1 ∨ j = 2 ∨ j = 3 ∨ j = 4 ∨ j = 5 ∨ j = 6 ∨ j = 7) with rfl | rfl | rfl | rfl | rfl | rfl | rfl | rfl <;> rfl
def cRSum : Ctr := { args := [bs], pre := fun x => [List.length x.1 ≤ 2000000], res := dg, own := none, out := fun x => sha x.1 }
def digL (s : St) (i : Nat) : List UInt8 := (List.range i).map (digestByte s) ++ List.replicate (32 - i) 0
theorem digL_set (s : St) (i : Nat) (h : i < 32) : (digL s i).set i (digestByte s i) = digL s (i + 1) := by
  unfold digL
  rw [List.set_append_right _ _ (by simp)]
  simp only [List.length_map, List.length_range, Nat.sub_self, List.range_succ, List.map_append, List.append_assoc, List.map_cons, List.map_nil]
  rw [show 32 - i = (32 - (i + 1)) + 1 by omega, List.replicate_succ]
  rfl
theorem stOf_words (t : St) : stOf (stWords t) = t := rfl
end Go.Proofs.YtbbeldmcdjjnbaaDoor
namespace Go.Proofs.YtbbeldmcdjjnbaaDoor
open Go Go.RowKit
set_option linter.unusedSimpArgs false
set_option linter.unusedVariables false
set_option maxRecDepth 100000
theorem take_snocD (l : List UInt8) (k : Nat) (h : k < l.length) (d : UInt8) : l.take (k + 1) = l.take k ++ [l.getD k d] := by
  rw [List.take_succ_eq_append_getElem h]; simp [List.getD, List.getElem?_eq_getElem h]
def cBytes : Ctr := { args := [dg], pre := fun _ => [], res := bs, own := some 5, out := fun x => x.1 }
def cBlock : Ctr := { args := [dg, u8], pre := fun _ => [], res := bs, own := some 5, out := fun x => keyBlock x.1 x.2.1 }
def cRKeyed : Ctr := { args := [dg, bs], pre := fun x => [List.length x.2.1 ≤ 900000], res := dg, own := none, out := fun x => hmac x.1 x.2.1 }
theorem keyBlock_len (d : List UInt8) (b : UInt8) (h : d.length = 32) : (keyBlock d b).length = 64 := by simp [keyBlock, h]
def cRFields : Ctr := { args := [.slice bs], pre := fun x => [(encoding x.1).length ≤ 2000000], res := dg, own := none, out := fun x => fields x.1 }
/-! ### hexadecimal digits -/
def hexStr : List UInt8 := [48, 49, 50, 51, 52, 53, 54, 55, 56, 57, 97, 98, 99, 100, 101, 102]
theorem hexStr_get (n : Nat) (h : n < 16) : hexStr.getD n 0 = hexDigit n := by
  rcases (by omega : n = 0 ∨ n = 1 ∨ n = 2 ∨ n = 3 ∨ n = 4 ∨ n = 5 ∨ n = 6 ∨ n = 7 ∨ n = 8 ∨ n = 9 ∨ n = 10 ∨ n = 11 ∨ n = 12 ∨ n = 13 ∨ n = 14 ∨ n = 15) with rfl | rfl | rfl | rfl | rfl | rfl | rfl | rfl | rfl | rfl | rfl | rfl | rfl | rfl | rfl | rfl <;> rfl
theorem hex_snoc (l : List UInt8) (b : UInt8) : hex (l ++ [b]) = hex l ++ [hexDigit (b.toNat / 16), hexDigit (b.toNat % 16)] := by simp [hex]
theorem hex_len (l : List UInt8) : (hex l).length = 2 * l.length := by
  induction l with
  | nil => rfl
  | cons b l ih => simp only [hex, List.flatMap_cons, List.length_append, List.length_cons, List.length_nil] at *; omega
def cRHex : Ctr := { args := [dg], pre := fun _ => [], res := .str, own := none, out := fun x => hex x.1 }
def dig (c : UInt8) : Int := cDigit.out (c, ())
def goodAt (s : List UInt8) (j : Nat) : Bool := decide (0 ≤ dig (s.getD (2 * j) 0)) && decide (0 ≤ dig (s.getD (2 * j + 1) 0))
def byteAt (s : List UInt8) (j : Nat) : UInt8 := UInt8.ofNat ((16 * dig (s.getD (2 * j) 0) + dig (s.getD (2 * j + 1) 0)) % 256).toNat
def unhexS (s : List UInt8) : Option (List UInt8) := if s.length = 64 ∧ (List.range 32).all (goodAt s) = true then some ((List.range 32).map (byteAt s)) else none
def unhexR (s : List UInt8) : List UInt8 × Int × Unit := match unhexS s with
  | some d => (d, 0, ())
  | none => (List.replicate 32 0, 3, ())
theorem goodAt_iff {s : List UInt8} {j : Nat} : goodAt s j = true ↔ 0 ≤ dig (s.getD (2 * j) 0) ∧ 0 ≤ dig (s.getD (2 * j + 1) 0) := by
  unfold goodAt
  rw [Bool.and_eq_true, decide_eq_true_iff, decide_eq_true_iff]
theorem dig_bound (c : UInt8) : -1 ≤ dig c ∧ dig c ≤ 15 := by
  unfold dig cDigit
  simp only
  split
  · omega
  · split
    · omega
    · split <;> omega
def cRUnhex : Ctr := { args := [.str], pre := fun _ => [], res := .tup dg (.tup i64 .unit), own := none, out := fun x => unhexR x.1 }
def unL (s : List UInt8) (i : Nat) : List UInt8 := (List.range i).map (byteAt s) ++ List.replicate (32 - i) 0
theorem unL_set (s : List UInt8) (i : Nat) (h : i < 32) : (unL s i).set i (byteAt s i) = unL s (i + 1) := by
  unfold unL
  rw [List.set_append_right _ _ (by simp)]
  simp only [List.length_map, List.length_range, Nat.sub_self, List.range_succ, List.map_append, List.append_assoc, List.map_cons, List.map_nil]
  rw [show 32 - i = (32 - (i + 1)) + 1 by omega, List.replicate_succ]
  rfl
def sameL (a b : List (List UInt8)) : Bool := decide (a = b)
def cSame : Ctr := { args := [.slice bs, .slice bs], pre := fun _ => [], res := .bool, own := none, out := fun x => sameL x.1 x.2.1 }
end Go.Proofs.YtbbeldmcdjjnbaaDoor
