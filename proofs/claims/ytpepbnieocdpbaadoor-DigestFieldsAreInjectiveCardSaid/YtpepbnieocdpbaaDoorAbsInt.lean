/-
  Integers as typed plain values: what each operation on integers yields, and that the model's operation yields what stands for it. No program is read here.
-/
import Derived.Test.YtpepbnieocdpbaaDoorAbsTab
namespace Go.Proofs.YtpepbnieocdpbaaDoor
open Go Go.RowKit
set_option linter.unusedSimpArgs false
set_option linter.unusedVariables false

def allP : List Prop → Prop
  | [] => True
  | [p] => p
  | p :: q :: r => p ∧ allP (q :: r)
theorem allP_cons {p : Prop} {r : List Prop} : allP (p :: r) ↔ p ∧ allP r := by
  cases r <;> simp [allP]
theorem allP_append {a b : List Prop} : allP (a ++ b) ↔ allP a ∧ allP b := by
  induction a with
  | nil => simp [allP]
  | cons p a ih => rw [List.cons_append, allP_cons, allP_cons, ih, and_assoc]
theorem allP_mem {a : List Prop} : allP a ↔ ∀ p ∈ a, p := by
  induction a with
  | nil => simp [allP]
  | cons p a ih =>
    rw [allP_cons, ih]
    constructor
    · rintro ⟨h1, h2⟩ q hq
      rcases List.mem_cons.1 hq with rfl | hq
      · exact h1
      · exact h2 q hq
    · exact fun h => ⟨h p (List.mem_cons_self ..), fun q hq => h q (List.mem_cons_of_mem _ hq)⟩

def inR (k : IntKind) (n : Int) : Prop := k.min ≤ n ∧ n ≤ k.max
theorem inR64 {n : Int} : inR .i64 n ↔ -9223372036854775808 ≤ n ∧ n ≤ 9223372036854775807 := by
  simp [inR, IntKind.min, IntKind.max, IntKind.signed, IntKind.bits]
theorem wrap_inR {k : IntKind} {n : Int} (h : inR k n) : k.wrap n = n := by
  unfold inR IntKind.min IntKind.max at h
  cases k <;> simp [IntKind.wrap, IntKind.signed, IntKind.bits] at h ⊢ <;> omega
theorem wrap_u8 (n : Int) : IntKind.u8.wrap n = n % 256 := by simp [IntKind.wrap, IntKind.bits, IntKind.signed]
theorem wrap_u16 (n : Int) : IntKind.u16.wrap n = n % 65536 := by simp [IntKind.wrap, IntKind.bits, IntKind.signed]
theorem wrap_u32 (n : Int) : IntKind.u32.wrap n = n % 4294967296 := by simp [IntKind.wrap, IntKind.bits, IntKind.signed]
theorem wrap_u64 (n : Int) : IntKind.u64.wrap n = n % 18446744073709551616 := by simp [IntKind.wrap, IntKind.bits, IntKind.signed]

abbrev arS (k : IntKind) (op : BinOp) (x y : Int) : Option (List Prop × Int) :=
  match op with
  | .add => some ([inR k (x + y)], x + y)
  | .sub => some ([inR k (x - y)], x - y)
  | .mul => some ([inR k (x * y)], x * y)
  | .quo => some ([y ≠ 0, inR k (x.tdiv y)], x.tdiv y)
  | .rem => some ([y ≠ 0], x.tmod y)
  | _ => none
abbrev ar8 (op : BinOp) (x y : UInt8) : Option (List Prop × UInt8) :=
  match op with
  | .add => some ([], x + y)
  | .sub => some ([], x - y)
  | .mul => some ([], x * y)
  | .quo => some ([y ≠ 0], x / y)
  | .rem => some ([y ≠ 0], x % y)
  | .and => some ([], x &&& y)
  | .or => some ([], x ||| y)
  | .xor => some ([], x ^^^ y)
  | _ => none
abbrev arB (w : Nat) (op : BinOp) (x y : BitVec w) : Option (List Prop × BitVec w) :=
  match op with
  | .add => some ([], x + y)
  | .sub => some ([], x - y)
  | .mul => some ([], x * y)
  | .quo => some ([y ≠ 0], x / y)
  | .rem => some ([y ≠ 0], x % y)
  | .and => some ([], x &&& y)
  | .or => some ([], x ||| y)
  | .xor => some ([], x ^^^ y)
  | _ => none
/-- arithmetic -/
def arI (op : BinOp) : (k : IntKind) → IntT k → IntT k → Option (List Prop × IntT k)
  | .u8, x, y => ar8 op x y
  | .u16, x, y => arB 16 op x y
  | .u32, x, y => arB 32 op x y
  | .u64, x, y => arB 64 op x y
  | .i8, x, y => arS .i8 op x y
  | .i16, x, y => arS .i16 op x y
  | .i32, x, y => arS .i32 op x y
  | .i64, x, y => arS .i64 op x y
/-- comparisons -/
def cmpI (op : BinOp) (a b : Int) : Option Bool :=
  match op with
  | .eql => some (a == b)
  | .neq => some (a != b)
  | .lss => some (decide (a < b))
  | .leq => some (decide (a ≤ b))
  | .gtr => some (decide (a > b))
  | .geq => some (decide (a ≥ b))
  | _ => none
/-- shifts -/
def shI (op : BinOp) : (k : IntKind) → IntT k → Int → Option (List Prop × IntT k)
  | .u8, x, n => match op with
    | .shl => some ([0 ≤ n], (UInt8.ofNat (UInt8.toNat x <<< n.toNat) : UInt8))
    | .shr => some ([0 ≤ n], (UInt8.ofNat (UInt8.toNat x >>> n.toNat) : UInt8))
    | _ => none
  | .u16, x, n => shB 16 op x n
  | .u32, x, n => shB 32 op x n
  | .u64, x, n => shB 64 op x n
  | .i8, _, _ => none
  | .i16, _, _ => none
  | .i32, _, _ => none
  | .i64, x, n => match op with
    | .shl => some ([0 ≤ n, n ≤ 63, inR .i64 ((x : Int) * 2 ^ n.toNat)], ((x : Int) * 2 ^ n.toNat : Int))
    | .shr => some ([0 ≤ n, n ≤ 63], ((x : Int) / 2 ^ n.toNat : Int))
    | _ => none
where
  shB (w : Nat) (op : BinOp) (x : BitVec w) (n : Int) : Option (List Prop × BitVec w) :=
    match op with
    | .shl => some ([0 ≤ n], x <<< n.toNat)
    | .shr => some ([0 ≤ n], x >>> n.toNat)
    | _ => none
/-- conversions -/
def cvI : (k l : IntKind) → IntT k → Option (List Prop × IntT l)
  | .u8, .u8, x => some ([], (x : UInt8))
  | .u16, .u8, x => some ([], (UInt8.ofNat (BitVec.toNat (w := 16) x) : UInt8))
  | .u32, .u8, x => some ([], (UInt8.ofNat (BitVec.toNat (w := 32) x) : UInt8))
  | .u64, .u8, x => some ([], (UInt8.ofNat (BitVec.toNat (w := 64) x) : UInt8))
  | .i64, .u8, x => some ([], (UInt8.ofNat ((x : Int) % 256).toNat : UInt8))
  | .u8, .u16, x => some ([], BitVec.ofNat 16 (UInt8.toNat x))
  | .u8, .u32, x => some ([], BitVec.ofNat 32 (UInt8.toNat x))
  | .u8, .u64, x => some ([], BitVec.ofNat 64 (UInt8.toNat x))
  | .u32, .u64, x => some ([], BitVec.ofNat 64 (BitVec.toNat (w := 32) x))
  | .u64, .u32, x => some ([], BitVec.ofNat 32 (BitVec.toNat (w := 64) x))
  | .u32, .u32, x => some ([], (x : BitVec 32))
  | .u64, .u64, x => some ([], (x : BitVec 64))
  | .i64, .u64, x => some ([], BitVec.ofInt 64 (x : Int))
  | .i64, .u32, x => some ([], BitVec.ofInt 32 (x : Int))
  | .u8, .i64, x => some ([], ((UInt8.toNat x : Nat) : Int))
  | .u16, .i64, x => some ([], ((BitVec.toNat (w := 16) x : Nat) : Int))
  | .u32, .i64, x => some ([], ((BitVec.toNat (w := 32) x : Nat) : Int))
  | .u64, .i64, x => some ([inR .i64 ((BitVec.toNat (w := 64) x : Nat) : Int)], ((BitVec.toNat (w := 64) x : Nat) : Int))
  | .i64, .i64, x => some ([inR .i64 (x : Int)], (x : Int))
  | _, _, _ => none
/-- ^x, -x -/
def unI (op : UnOp) : (k : IntKind) → IntT k → Option (List Prop × IntT k)
  | .u8, x => match op with | .xor => some ([], (~~~ (x : UInt8) : UInt8)) | _ => none
  | .u16, x => match op with | .xor => some ([], ~~~ (x : BitVec 16)) | _ => none
  | .u32, x => match op with | .xor => some ([], ~~~ (x : BitVec 32)) | _ => none
  | .u64, x => match op with | .xor => some ([], ~~~ (x : BitVec 64)) | _ => none
  | .i64, x => match op with | .neg => some ([inR .i64 (-(x : Int))], (-(x : Int) : Int)) | _ => none
  | _, _ => none

section
variable {P : Program} {w : World}
/-- the dispatch of two integers -/
def intBin (op : BinOp) (k : IntKind) (a b : Int) : Sem Value :=
  match op with
  | .add | .sub | .mul => Op.intArith op k a b
  | .quo | .rem => Op.intDiv op k a b
  | .and | .or | .xor | .andNot => Op.intBits op k a b
  | _ => Op.intCmp op a b
theorem binOp_int {op : BinOp} {t : TypeId} {k : IntKind} {a b : Int} (h1 : op ≠ .shl) (h2 : op ≠ .shr) : Go.binOp op t (.int k a) (.int k b) = intBin op k a b := by
  cases op <;> simp_all [Go.binOp, intBin]
theorem arS_run {k : IntKind} {op : BinOp} {x y : Int} {vc : List Prop} {z : Int} (h : arS k op x y = some (vc, z)) (hv : allP vc) : (intBin op k x y).run P w = .ok (.int k z) w := by
  cases op <;> simp only [arS, Option.some.injEq, Prod.mk.injEq, reduceCtorEq] at h <;> obtain ⟨rfl, rfl⟩ := h <;> simp only [allP] at hv
  · simp [intBin, Op.intArith, wrap_inR hv]
  · simp [intBin, Op.intArith, wrap_inR hv]
  · simp [intBin, Op.intArith, wrap_inR hv]
  · simp [intBin, Op.intDiv, hv.1, wrap_inR hv.2]
  · simp [intBin, Op.intDiv, hv]
theorem ofInt_nat (w n : Nat) : BitVec.ofInt w (n : Int) = BitVec.ofNat w n := by simp
theorem bits8 (x y : UInt8) : (BitVec.ofInt 8 (x.toNat : Int)) = x.toBitVec := by rw [ofInt_nat, ← UInt8.toNat_toBitVec, BitVec.ofNat_toNat, BitVec.setWidth_eq]
theorem ar8_run {op : BinOp} {x y : UInt8} {vc : List Prop} {z : UInt8} (h : ar8 op x y = some (vc, z)) (hv : allP vc) : (intBin op .u8 (x.toNat : Int) (y.toNat : Int)).run P w = .ok (.int .u8 (z.toNat : Int)) w := by
  have hx := x.toNat_lt
  have hy := y.toNat_lt
  have ex : BitVec.ofInt 8 (x.toNat : Int) = x.toBitVec := bits8 x x
  have ey : BitVec.ofInt 8 (y.toNat : Int) = y.toBitVec := bits8 y y
  cases op <;> simp only [ar8, Option.some.injEq, Prod.mk.injEq, reduceCtorEq] at h <;> obtain ⟨rfl, rfl⟩ := h <;> simp only [allP] at hv
  · simp only [intBin, Op.intArith, Sem.run_pure, wrap_u8, UInt8.toNat_add]; congr 2
  · simp only [intBin, Op.intArith, Sem.run_pure, wrap_u8, UInt8.toNat_sub]; congr 2; omega
  · simp only [intBin, Op.intArith, Sem.run_pure, wrap_u8, UInt8.toNat_mul]; congr 2
  · have : (y.toNat : Int) ≠ 0 := by intro e; apply hv; apply UInt8.toNat.inj; simpa using e
    simp only [intBin, Op.intDiv, this, if_false, Sem.run_pure, wrap_u8, UInt8.toNat_div]
    congr 2
    rw [Int.tdiv_eq_ediv_of_nonneg (by omega)]
    have h1 : x.toNat / y.toNat < 256 := Nat.lt_of_le_of_lt (Nat.div_le_self _ _) hx
    rw [← Int.natCast_ediv]
    generalize x.toNat / y.toNat = q at *
    omega
  · have : (y.toNat : Int) ≠ 0 := by intro e; apply hv; apply UInt8.toNat.inj; simpa using e
    simp only [intBin, Op.intDiv, this, if_false, Sem.run_pure, UInt8.toNat_mod]
    congr 2
  · simp only [intBin, Op.intBits, IntKind.bits, ex, ey, Sem.run_pure, wrap_u8]
    congr 2
    have := (x &&& y).toNat_lt
    rw [Int.emod_eq_of_lt (by omega) (by have := (x.toBitVec &&& y.toBitVec).isLt; omega)]; rfl
  · simp only [intBin, Op.intBits, IntKind.bits, ex, ey, Sem.run_pure, wrap_u8]
    congr 2
    rw [Int.emod_eq_of_lt (by omega) (by have := (x.toBitVec ||| y.toBitVec).isLt; omega)]; rfl
  · simp only [intBin, Op.intBits, IntKind.bits, ex, ey, Sem.run_pure, wrap_u8]
    congr 2
    rw [Int.emod_eq_of_lt (by omega) (by have := (x.toBitVec ^^^ y.toBitVec).isLt; omega)]; rfl
theorem bv_wrap {m : Nat} (x : BitVec m) : ((x.toNat : Int)) % (2 ^ m : Int) = x.toNat := by
  have := x.isLt
  rw [Int.emod_eq_of_lt (by omega) (by exact_mod_cast this)]
theorem arB_run {k : IntKind} (hk : k.signed = false) {op : BinOp} {x y : BitVec k.bits} {vc : List Prop} {z : BitVec k.bits} (h : arB k.bits op x y = some (vc, z)) (hv : allP vc) :
    (intBin op k (x.toNat : Int) (y.toNat : Int)).run P w = .ok (.int k (z.toNat : Int)) w := by
  have hw : ∀ n, k.wrap n = n % (2 ^ k.bits : Int) := fun n => by simp [IntKind.wrap, hk]
  have ex : BitVec.ofInt k.bits (x.toNat : Int) = x := by rw [ofInt_nat]; simp
  have ey : BitVec.ofInt k.bits (y.toNat : Int) = y := by rw [ofInt_nat]; simp
  cases op <;> simp only [arB, Option.some.injEq, Prod.mk.injEq, reduceCtorEq] at h <;> obtain ⟨rfl, rfl⟩ := h <;> simp only [allP] at hv
  · simp only [intBin, Op.intArith, Sem.run_pure, hw, BitVec.toNat_add]; norm_cast
  · simp only [intBin, Op.intArith, Sem.run_pure, hw, BitVec.toNat_sub]
    congr 2
    have := y.isLt
    push_cast
    rw [Int.natCast_sub (by omega)]
    push_cast
    rw [show ((2:Int)^k.bits - (y.toNat : Int) + x.toNat) = (x.toNat - y.toNat) + (2:Int)^k.bits by omega, Int.add_emod_right]
  · simp only [intBin, Op.intArith, Sem.run_pure, hw, BitVec.toNat_mul]; norm_cast
  · have : (y.toNat : Int) ≠ 0 := by intro e; apply hv; apply BitVec.eq_of_toNat_eq; simpa using e
    simp only [intBin, Op.intDiv, this, if_false, Sem.run_pure, hw]
    congr 2
    rw [Int.tdiv_eq_ediv_of_nonneg (by omega), ← Int.natCast_ediv, ← BitVec.toNat_udiv]
    exact bv_wrap _
  · have : (y.toNat : Int) ≠ 0 := by intro e; apply hv; apply BitVec.eq_of_toNat_eq; simpa using e
    simp only [intBin, Op.intDiv, this, if_false, Sem.run_pure]
    congr 2
  · simp only [intBin, Op.intBits, ex, ey, Sem.run_pure, hw, bv_wrap]
  · simp only [intBin, Op.intBits, ex, ey, Sem.run_pure, hw, bv_wrap]
  · simp only [intBin, Op.intBits, ex, ey, Sem.run_pure, hw, bv_wrap]
theorem arI_ne {op : BinOp} {k : IntKind} {x y : IntT k} {r : List Prop × IntT k} (h : arI op k x y = some r) : op ≠ .shl ∧ op ≠ .shr := by
  constructor <;> (rintro rfl; cases k <;> cases h)
theorem arI_run {op : BinOp} {k : IntKind} {t : TypeId} {x y : IntT k} {vc : List Prop} {z : IntT k} (h : arI op k x y = some (vc, z)) (hv : allP vc) :
    (Go.binOp op t (.int k (encI k x)) (.int k (encI k y))).run P w = .ok (.int k (encI k z)) w := by
  rw [binOp_int (arI_ne h).1 (arI_ne h).2]
  cases k with
  | u8 => exact ar8_run h hv
  | u16 => exact arB_run (k := .u16) rfl h hv
  | u32 => exact arB_run (k := .u32) rfl h hv
  | u64 => exact arB_run (k := .u64) rfl h hv
  | i8 => exact arS_run h hv
  | i16 => exact arS_run h hv
  | i32 => exact arS_run h hv
  | i64 => exact arS_run h hv
theorem cmpI_run {op : BinOp} {k : IntKind} {t : TypeId} {a b : Int} {r : Bool} (h : cmpI op a b = some r) : (Go.binOp op t (.int k a) (.int k b)).run P w = .ok (.bool r) w := by
  cases op <;> simp only [cmpI, Option.some.injEq, reduceCtorEq] at h <;> subst h <;> simp [Go.binOp, Op.intCmp]
theorem shI_run {op : BinOp} {k l : IntKind} {t : TypeId} {x : IntT k} {n : Int} {vc : List Prop} {z : IntT k} (h : shI op k x n = some (vc, z)) (hv : allP vc) :
    (Go.binOp op t (.int k (encI k x)) (.int l n)).run P w = .ok (.int k (encI k z)) w := by
  have key : ∀ (k : IntKind) (hk : k.signed = false) (x : BitVec k.bits) (vc : List Prop) (z : BitVec k.bits), shI.shB k.bits op x n = some (vc, z) → allP vc →
      (Go.binOp op t (.int k (x.toNat : Int)) (.int l n)).run P w = .ok (.int k (z.toNat : Int)) w := by
    intro k hk x vc z h hv
    have hw : ∀ n, k.wrap n = n % (2 ^ k.bits : Int) := fun n => by simp [IntKind.wrap, hk]
    cases op <;> simp only [shI.shB, Option.some.injEq, Prod.mk.injEq, reduceCtorEq] at h <;> obtain ⟨rfl, rfl⟩ := h <;> simp only [allP] at hv
    · simp only [Go.binOp, Op.shift, Int.not_lt.mpr hv, if_false, hw, Sem.run_pure]
      congr 2
      rw [BitVec.toNat_shiftLeft, Nat.shiftLeft_eq]
      push_cast
      rcases Nat.le_total n.toNat k.bits with h1 | h1
      · rw [Nat.min_eq_left h1]
      · rw [Nat.min_eq_right h1]
        have e1 : (2:Int) ^ n.toNat = 2 ^ k.bits * 2 ^ (n.toNat - k.bits) := by rw [← Int.pow_add]; congr 1; omega
        rw [e1, Int.mul_emod_left, ← Int.mul_assoc, Int.mul_comm (x.toNat : Int), Int.mul_assoc, Int.mul_emod_right]
    · simp only [Go.binOp, Op.shift, Int.not_lt.mpr hv, if_false, Sem.run_pure]
      congr 2
      rw [BitVec.toNat_ushiftRight, Nat.shiftRight_eq_div_pow, Int.fdiv_eq_ediv_of_nonneg _ (Int.le_of_lt (Int.pow_pos (by decide)))]
      push_cast
      rcases Nat.le_total n.toNat k.bits with h1 | h1
      · rw [Nat.min_eq_left h1]
      · rw [Nat.min_eq_right h1]
        have := x.isLt
        have e0 : (x.toNat : Int) < 2 ^ k.bits := by exact_mod_cast this
        have e1 : (2:Int) ^ k.bits ≤ 2 ^ n.toNat := by exact_mod_cast Nat.pow_le_pow_right (by decide) h1
        rw [Int.ediv_eq_zero_of_lt (by omega) e0, Int.ediv_eq_zero_of_lt (by omega) (by omega)]
  cases k with
  | u16 => exact key .u16 rfl x vc z h hv
  | u32 => exact key .u32 rfl x vc z h hv
  | u64 => exact key .u64 rfl x vc z h hv
  | u8 =>
    have hx := UInt8.toNat_lt x
    cases op <;> simp only [shI, Option.some.injEq, Prod.mk.injEq, reduceCtorEq] at h <;> obtain ⟨rfl, rfl⟩ := h <;> simp only [allP] at hv
    · simp only [Go.binOp, Op.shift, Int.not_lt.mpr hv, if_false, wrap_u8, Sem.run_pure, encI]
      congr 2
      simp only [UInt8.toNat_ofNat', Nat.shiftLeft_eq, IntKind.bits]
      rw [Int.natCast_emod, Int.natCast_mul, Int.natCast_pow, show ((2 : Nat) : Int) = 2 from rfl, show ((2 ^ 8 : Nat) : Int) = 256 from rfl]
      rcases Nat.le_total n.toNat 8 with h1 | h1
      · rw [Nat.min_eq_left h1]
      · rw [Nat.min_eq_right h1]
        have e1 : (2:Int) ^ n.toNat = 256 * 2 ^ (n.toNat - 8) := by rw [show (256:Int) = 2^8 by rfl, ← Int.pow_add]; congr 1; omega
        rw [e1, Int.mul_left_comm, Int.mul_emod_right, show (2 : Int) ^ 8 = 256 from rfl, Int.mul_emod_left]
    · simp only [Go.binOp, Op.shift, Int.not_lt.mpr hv, if_false, Sem.run_pure, encI]
      congr 2
      rw [Int.fdiv_eq_ediv_of_nonneg _ (Int.le_of_lt (Int.pow_pos (by decide)))]
      simp only [UInt8.toNat_ofNat', Nat.shiftRight_eq_div_pow, IntKind.bits]
      have h3 : UInt8.toNat x / 2 ^ n.toNat < 256 := Nat.lt_of_le_of_lt (Nat.div_le_self _ _) hx
      rw [show 2 ^ 8 = 256 from rfl, Nat.mod_eq_of_lt h3, Int.natCast_ediv, Int.natCast_pow, show ((2 : Nat) : Int) = 2 from rfl]
      rcases Nat.le_total n.toNat 8 with h1 | h1
      · rw [Nat.min_eq_left h1]
      · rw [Nat.min_eq_right h1]
        have e1 : (2:Int) ^ 8 ≤ 2 ^ n.toNat := by exact_mod_cast Nat.pow_le_pow_right (by decide) h1
        rw [Int.ediv_eq_zero_of_lt (by omega) (by omega), Int.ediv_eq_zero_of_lt (by omega) (by omega)]
  | i64 =>
    cases op <;> simp only [shI, Option.some.injEq, Prod.mk.injEq, reduceCtorEq] at h <;> obtain ⟨rfl, rfl⟩ := h <;> simp only [allP] at hv
    · have : min n.toNat IntKind.i64.bits = n.toNat := by simp only [IntKind.bits]; omega
      simp only [Go.binOp, Op.shift, Int.not_lt.mpr hv.1, if_false, this, encI, wrap_inR hv.2.2, Sem.run_pure]
    · have : min n.toNat IntKind.i64.bits = n.toNat := by simp only [IntKind.bits]; omega
      simp only [Go.binOp, Op.shift, Int.not_lt.mpr hv.1, if_false, this, encI, Sem.run_pure]
      rw [Int.fdiv_eq_ediv_of_nonneg _ (Int.le_of_lt (Int.pow_pos (by decide)))]
  | i8 => cases h
  | i16 => cases h
  | i32 => cases h
theorem cvI_wrap {k l : IntKind} {x : IntT k} {vc : List Prop} {z : IntT l} (h : cvI k l x = some (vc, z)) (hv : allP vc) : l.wrap (encI k x) = encI l z := by
  have bv : ∀ (m : Nat) (x : BitVec m) (c : Int), c = 2 ^ m → (BitVec.toNat x : Int) % c = x.toNat := fun m x c hc => by rw [hc]; exact bv_wrap x
  cases k <;> cases l <;> simp only [cvI, Option.some.injEq, Prod.mk.injEq, reduceCtorEq] at h <;> obtain ⟨rfl, rfl⟩ := h <;> simp only [allP] at hv <;>
    simp only [encI, wrap_u8, wrap_u16, wrap_u32, wrap_u64] <;> first
    | exact wrap_inR hv
    | exact bv _ _ _ (by decide)
    | (have := UInt8.toNat_lt x; rw [wrap_inR]; rw [inR64]; omega)
    | (have := BitVec.isLt (w := 16) x; rw [wrap_inR]; rw [inR64]; omega)
    | (have := BitVec.isLt (w := 32) x; rw [wrap_inR]; rw [inR64]; omega)
    | (have := UInt8.toNat_lt x; omega)
    | (simp only [UInt8.toNat_ofNat', BitVec.toNat_ofNat, BitVec.toNat_ofInt]; omega)
theorem unI_run {op : UnOp} {k : IntKind} {x : IntT k} {vc : List Prop} {z : IntT k} (h : unI op k x = some (vc, z)) (hv : allP vc) : (Op.unary op (.int k (encI k x))).run P w = .ok (.int k (encI k z)) w := by
  have key : ∀ (k : IntKind) (hk : k.signed = false) (x : BitVec k.bits), (Op.unary .xor (.int k (x.toNat : Int))).run P w = .ok (.int k ((~~~ x).toNat : Int)) w := by
    intro k hk x
    have ex : BitVec.ofInt k.bits (x.toNat : Int) = x := by rw [ofInt_nat]; simp
    have em : BitVec.ofInt k.bits k.max = BitVec.allOnes k.bits := by cases k <;> first | rfl | cases hk
    have hw : ∀ n, k.wrap n = n % (2 ^ k.bits : Int) := fun n => by simp [IntKind.wrap, hk]
    simp only [Op.unary, hk, Bool.false_eq_true, if_false, Op.intBits, ex, em, Sem.run_pure, hw]
    rw [BitVec.allOnes_xor, bv_wrap]
  cases k with
  | u8 =>
    cases op <;> simp only [unI, Option.some.injEq, Prod.mk.injEq, reduceCtorEq] at h
    obtain ⟨rfl, rfl⟩ := h
    exact key .u8 rfl (UInt8.toBitVec x)
  | u16 => cases op <;> simp only [unI, Option.some.injEq, Prod.mk.injEq, reduceCtorEq] at h; obtain ⟨rfl, rfl⟩ := h; exact key .u16 rfl x
  | u32 => cases op <;> simp only [unI, Option.some.injEq, Prod.mk.injEq, reduceCtorEq] at h; obtain ⟨rfl, rfl⟩ := h; exact key .u32 rfl x
  | u64 => cases op <;> simp only [unI, Option.some.injEq, Prod.mk.injEq, reduceCtorEq] at h; obtain ⟨rfl, rfl⟩ := h; exact key .u64 rfl x
  | i64 =>
    cases op <;> simp only [unI, Option.some.injEq, Prod.mk.injEq, reduceCtorEq] at h
    obtain ⟨rfl, rfl⟩ := h
    simp only [allP] at hv
    simp [Op.unary, Op.intArith, encI, wrap_inR hv]
  | _ => cases op <;> cases h
end
end Go.Proofs.YtpepbnieocdpbaaDoor
