/-
  SHA-256, HMAC, the digest of a list and the hexadecimal notation as plain Lean functions on lists of bytes; and plain facts on them. No program is read here.
-/
import Derived.Test.YtbbeldmcdjjnbaaDoorWord
namespace Go.Proofs.YtbbeldmcdjjnbaaDoor

/-- x rotated to the right by n bits. -/
def rotr (x : BitVec 32) (n : Nat) : BitVec 32 := (x >>> n) ||| (x <<< (32 - n))
/-- four bytes as a word, the greatest first -/
def be32 (a b c d : UInt8) : BitVec 32 := (w8 a <<< 24) ||| (w8 b <<< 16) ||| (w8 c <<< 8) ||| w8 d
def sig0 (x : BitVec 32) : BitVec 32 := rotr x 7 ^^^ rotr x 18 ^^^ (x >>> 3)
def sig1 (x : BitVec 32) : BitVec 32 := rotr x 17 ^^^ rotr x 19 ^^^ (x >>> 10)
/-- the next word of the schedule of a block b behind the words l -/
def schedNext (b : List UInt8) (l : List (BitVec 32)) : BitVec 32 :=
  if l.length < 16 then be32 (b.getD (4 * l.length) 0) (b.getD (4 * l.length + 1) 0) (b.getD (4 * l.length + 2) 0) (b.getD (4 * l.length + 3) 0)
  else l.getD (l.length - 16) 0 + sig0 (l.getD (l.length - 15) 0) + l.getD (l.length - 7) 0 + sig1 (l.getD (l.length - 2) 0)
/-- the first k words of the schedule -/
def sched (b : List UInt8) : Nat → List (BitVec 32)
  | 0 => []
  | k + 1 => sched b k ++ [schedNext b (sched b k)]

theorem sched_length (b : List UInt8) (k : Nat) : (sched b k).length = k := by
  induction k with
  | zero => rfl
  | succ k ih => simp [sched, ih]

/-- the round constants -/
def roundK : List (BitVec 32) := [
  0x428a2f98, 0x71374491, 0xb5c0fbcf, 0xe9b5dba5, 0x3956c25b, 0x59f111f1, 0x923f82a4, 0xab1c5ed5,
  0xd807aa98, 0x12835b01, 0x243185be, 0x550c7dc3, 0x72be5d74, 0x80deb1fe, 0x9bdc06a7, 0xc19bf174,
  0xe49b69c1, 0xefbe4786, 0x0fc19dc6, 0x240ca1cc, 0x2de92c6f, 0x4a7484aa, 0x5cb0a9dc, 0x76f988da,
  0x983e5152, 0xa831c66d, 0xb00327c8, 0xbf597fc7, 0xc6e00bf3, 0xd5a79147, 0x06ca6351, 0x14292967,
  0x27b70a85, 0x2e1b2138, 0x4d2c6dfc, 0x53380d13, 0x650a7354, 0x766a0abb, 0x81c2c92e, 0x92722c85,
  0xa2bfe8a1, 0xa81a664b, 0xc24b8b70, 0xc76c51a3, 0xd192e819, 0xd6990624, 0xf40e3585, 0x106aa070,
  0x19a4c116, 0x1e376c08, 0x2748774c, 0x34b0bcb5, 0x391c0cb3, 0x4ed8aa4a, 0x5b9cca4f, 0x682e6ff3,
  0x748f82ee, 0x78a5636f, 0x84c87814, 0x8cc70208, 0x90befffa, 0xa4506ceb, 0xbef9a3f7, 0xc67178f2]

/-- the state of the compression function -/
structure St where
  a : BitVec 32
  b : BitVec 32
  c : BitVec 32
  d : BitVec 32
  e : BitVec 32
  f : BitVec 32
  g : BitVec 32
  h : BitVec 32
def roundX (t : St) (k w : BitVec 32) : BitVec 32 :=
  t.h + (rotr t.e 6 ^^^ rotr t.e 11 ^^^ rotr t.e 25) + ((t.e &&& t.f) ^^^ (~~~t.e &&& t.g)) + k + w
def roundY (t : St) : BitVec 32 :=
  (rotr t.a 2 ^^^ rotr t.a 13 ^^^ rotr t.a 22) + ((t.a &&& t.b) ^^^ (t.a &&& t.c) ^^^ (t.b &&& t.c))
def round (t : St) (k w : BitVec 32) : St :=
  ⟨roundX t k w + roundY t, t.a, t.b, t.c, t.d + roundX t k w, t.e, t.f, t.g⟩
/-- the state behind the first i rounds -/
def rounds (t : St) (ws : List (BitVec 32)) : Nat → St
  | 0 => t
  | i + 1 => round (rounds t ws i) (roundK.getD i 0) (ws.getD i 0)
def addSt (s t : St) : St := ⟨s.a + t.a, s.b + t.b, s.c + t.c, s.d + t.d, s.e + t.e, s.f + t.f, s.g + t.g, s.h + t.h⟩
def stWords (t : St) : List (BitVec 32) := [t.a, t.b, t.c, t.d, t.e, t.f, t.g, t.h]
/-- the state behind a block -/
def compress (s : St) (b : List UInt8) : St := addSt s (rounds s (sched b 64) 64)
def st0 : St := ⟨0x6a09e667, 0xbb67ae85, 0x3c6ef372, 0xa54ff53a, 0x510e527f, 0x9b05688c, 0x1f83d9ab, 0x5be0cd19⟩
/-- the state behind n blocks of a message -/
def blocksTo (m : List UInt8) : Nat → St
  | 0 => st0
  | n + 1 => compress (blocksTo m n) ((m.drop (64 * n)).take 64)
/-- how many zero bytes follow 0x80 -/
def zerosFor (n : Nat) : Nat := (119 - n % 64) % 64
def sizeByte (n i : Nat) : UInt8 := UInt8.ofNat ((8 * n) / 2 ^ (8 * i))
def be64 (n : Nat) : List UInt8 := [sizeByte n 7, sizeByte n 6, sizeByte n 5, sizeByte n 4, sizeByte n 3, sizeByte n 2, sizeByte n 1, sizeByte n 0]
/-- the padded message -/
def pad (l : List UInt8) : List UInt8 := l ++ [0x80] ++ List.replicate (zerosFor l.length) 0 ++ be64 l.length
def digestByte (s : St) (i : Nat) : UInt8 := lo8 ((stWords s).getD (i / 4) 0 >>> (24 - 8 * (i % 4)))
def digestOf (s : St) : List UInt8 := (List.range 32).map (digestByte s)
/-- SHA-256 -/
def sha (l : List UInt8) : List UInt8 := digestOf (blocksTo (pad l) ((pad l).length / 64))
theorem sha_length (l : List UInt8) : (sha l).length = 32 := by simp [sha, digestOf]
theorem pad_length (l : List UInt8) : (pad l).length % 64 = 0 := by
  simp [pad, zerosFor, be64]; omega
/-- a key's block XOR a byte -/
def keyBlock (key : List UInt8) (by_ : UInt8) : List UInt8 := key.map (· ^^^ by_) ++ List.replicate 32 by_
/-- HMAC -/
def hmac (key l : List UInt8) : List UInt8 := sha (keyBlock key 0x5c ++ sha (keyBlock key 0x36 ++ l))
/-- eight bytes of a length, the least first -/
def le64 (n : Nat) : List UInt8 := (List.range 8).map fun i => UInt8.ofNat (n / 2 ^ (8 * i))
/-- the encoding of a list of byte strings -/
def encoding (l : List (List UInt8)) : List UInt8 := l.flatMap fun b => le64 b.length ++ b
def fields (l : List (List UInt8)) : List UInt8 := sha (encoding l)
def hexDigit (n : Nat) : UInt8 := if n < 10 then UInt8.ofNat (48 + n) else UInt8.ofNat (87 + n)
def hex (d : List UInt8) : List UInt8 := d.flatMap fun b => [hexDigit (b.toNat / 16), hexDigit (b.toNat % 16)]
/-- the value of a hexadecimal digit -/
def digitVal (c : UInt8) : Option Nat :=
  if 48 ≤ c.toNat ∧ c.toNat ≤ 57 then some (c.toNat - 48)
  else if 97 ≤ c.toNat ∧ c.toNat ≤ 102 then some (c.toNat - 87)
  else if 65 ≤ c.toNat ∧ c.toNat ≤ 70 then some (c.toNat - 55)
  else none
/-- the bytes that pairs of digits denote -/
def unhexAll : List UInt8 → Option (List UInt8)
  | [] => some []
  | [_] => none
  | a :: b :: r => match digitVal a, digitVal b, unhexAll r with
    | some x, some y, some l => some (UInt8.ofNat (16 * x + y) :: l)
    | _, _, _ => none
def unhex (s : List UInt8) : Option (List UInt8) := if s.length = 64 then unhexAll s else none

end Go.Proofs.YtbbeldmcdjjnbaaDoor
