/-
  Words and bytes as Go's walk spells them: a 32-bit word 'x' stands as '.int .u32 (wInt x)', a byte 'b' as '.int .u8 b.toNat'; the rules by which the walk keeps that spelling. No program is read here.
-/
import Derived.WalkKit
namespace Go.Proofs.YtbbeldmcdjjnbaaDoor
open Go Go.RowKit
set_option linter.unusedSimpArgs false
set_option linter.unusedVariables false

/-- A 32-bit word as the integer that Go's uint32 holds. -/
def wInt (x : BitVec 32) : Int := (x.toNat : Int)
/-- The word that a byte is. -/
def w8 (b : UInt8) : BitVec 32 := BitVec.ofNat 32 b.toNat
/-- The low byte of a word. -/
def lo8 (x : BitVec 32) : UInt8 := UInt8.ofNat x.toNat

theorem wInt_nonneg (x : BitVec 32) : 0 ≤ wInt x := by unfold wInt; omega
theorem wInt_lt (x : BitVec 32) : wInt x < 4294967296 := by unfold wInt; have := x.isLt; omega

theorem wrap_u32_eq (n : Int) : IntKind.u32.wrap n = n % 4294967296 := by simp [IntKind.wrap, IntKind.bits, IntKind.signed]
theorem wrap_u32_nat (n : Nat) : IntKind.u32.wrap (n : Int) = wInt (BitVec.ofNat 32 n) := by
  rw [wrap_u32_eq]; unfold wInt; simp
theorem wrap_u32_u32 (x : BitVec 32) : IntKind.u32.wrap (wInt x) = wInt x := by
  rw [wrap_u32_eq]; have := wInt_nonneg x; have := wInt_lt x; omega
theorem wrap_u32_add (x y : BitVec 32) : IntKind.u32.wrap (wInt x + wInt y) = wInt (x + y) := by
  rw [wrap_u32_eq]; unfold wInt; rw [BitVec.toNat_add]; omega
theorem wrap_u32_sub (x y : BitVec 32) : IntKind.u32.wrap (wInt x - wInt y) = wInt (x - y) := by
  rw [wrap_u32_eq]; unfold wInt; rw [BitVec.toNat_sub]; have := y.isLt; have := x.isLt; omega
theorem wrap_u32_sub_lit (y : BitVec 32) : IntKind.u32.wrap (4294967295 - wInt y) = wInt (~~~ y) := by
  rw [wrap_u32_eq]; unfold wInt; rw [BitVec.toNat_not]; have := y.isLt; omega
theorem wrap_u32_byte (b : UInt8) : IntKind.u32.wrap (b.toNat : Int) = wInt (w8 b) := by
  rw [wrap_u32_nat]; rfl
theorem wrap_u8_u32 (x : BitVec 32) : IntKind.u8.wrap (wInt x) = ((lo8 x).toNat : Int) := by
  unfold wInt lo8; simp [IntKind.wrap, IntKind.bits, IntKind.signed]
theorem shl_u32 (yk : IntKind) (x : BitVec 32) (n : Int) (h : 0 ≤ n) (h2 : n ≤ 32) : Op.shift .shl .u32 (wInt x) yk n = pure (.int .u32 (wInt (x <<< n.toNat))) := by
  have e : min n.toNat 32 = n.toNat := by omega
  simp only [Op.shift, Int.not_lt.mpr h, if_false, IntKind.bits, e, wrap_u32_eq]
  refine congrArg (fun z => pure (Value.int .u32 z)) ?_
  unfold wInt
  rw [BitVec.toNat_shiftLeft, Nat.shiftLeft_eq]
  simp
theorem shr_u32 (yk : IntKind) (x : BitVec 32) (n : Int) (h : 0 ≤ n) (h2 : n ≤ 32) : Op.shift .shr .u32 (wInt x) yk n = pure (.int .u32 (wInt (x >>> n.toNat))) := by
  have e : min n.toNat 32 = n.toNat := by omega
  simp only [Op.shift, Int.not_lt.mpr h, if_false, IntKind.bits, e]
  refine congrArg (fun z => pure (Value.int .u32 z)) ?_
  unfold wInt
  rw [BitVec.toNat_ushiftRight, Nat.shiftRight_eq_div_pow, Int.fdiv_eq_ediv_of_nonneg _ (Int.le_of_lt (Int.pow_pos (by decide)))]
  simp
theorem ofInt_u32' (x : BitVec 32) : BitVec.ofInt 32 (wInt x) = x := by
  unfold wInt; rw [BitVec.ofInt_natCast]; simp
theorem wrap_u32_toNat (x : BitVec 32) : IntKind.u32.wrap (x.toNat : Int) = wInt x := by rw [wrap_u32_nat]; simp
theorem and_u32 (x y : BitVec 32) : bits .and .u32 (wInt x) (wInt y) = wInt (x &&& y) := by
  show IntKind.u32.wrap ((BitVec.ofInt 32 (wInt x) &&& BitVec.ofInt 32 (wInt y)).toNat : Int) = _
  rw [ofInt_u32', ofInt_u32', wrap_u32_toNat]
theorem or_u32 (x y : BitVec 32) : bits .or .u32 (wInt x) (wInt y) = wInt (x ||| y) := by
  show IntKind.u32.wrap ((BitVec.ofInt 32 (wInt x) ||| BitVec.ofInt 32 (wInt y)).toNat : Int) = _
  rw [ofInt_u32', ofInt_u32', wrap_u32_toNat]
theorem xor_u32 (x y : BitVec 32) : bits .xor .u32 (wInt x) (wInt y) = wInt (x ^^^ y) := by
  show IntKind.u32.wrap ((BitVec.ofInt 32 (wInt x) ^^^ BitVec.ofInt 32 (wInt y)).toNat : Int) = _
  rw [ofInt_u32', ofInt_u32', wrap_u32_toNat]
end Go.Proofs.YtbbeldmcdjjnbaaDoor
