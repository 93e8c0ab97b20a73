/-
  Package digest, first part: the rotation of the library, the value of a digit, Hex, Unhex.
-/
import Derived.Test.YtpepbnieocdpbaaDoorDRefD
namespace Go.Proofs.YtpepbnieocdpbaaDoor
open Go Go.RowKit
set_option linter.unusedSimpArgs false
set_option linter.unusedVariables false
set_option maxRecDepth 100000
theorem and31b (k : Int) (h1 : -32 < k) (h2 : k < 0) : (BitVec.ofInt 64 k &&& BitVec.ofNat 64 31).toNat = (32 + k).toNat := by
  rw [BitVec.toNat_and, BitVec.toNat_ofInt, BitVec.toNat_ofNat]
  have e : (k % ((2 ^ 64 : Nat) : Int)).toNat = (18446744073709551616 + k).toNat := by
    congr 1
    omega
  rw [e]
  have : ∀ n : Nat, n &&& (31 % 2 ^ 64) = n % 32 := fun n => Nat.and_two_pow_sub_one_eq_mod n 5
  rw [this]
  omega
def cRot : Ctr := { args := [u32, i64], pre := fun x => [-32 < x.2.1, x.2.1 < 0], res := u32, own := none, out := fun x => rotr x.1 (-x.2.1).toNat }
theorem rot_ok : CtrOk Tryd.prog dG 41 cRot := by
  refine ctr_of_awp (K := dK) dK_ok Tryd.func41 rfl rfl Tryd.call41 rfl (by decide) (by intro h; cases h) ?_
  rintro w0 X hX ⟨(x : BitVec 32), (k : Int), _⟩ hp
  change AWP _ _ _ _ _ ⟨[(0, ⟨u32, x⟩), (1, ⟨i64, k⟩)], [], 0⟩ _
  obtain ⟨h1, h2⟩ : -32 < k ∧ k < 0 := hp
  (repeat (first | refine AWP.seq ?_ | refine AWP.skip ?_ | refine AWP.label ?_ | refine AWP.exit ?_ | refine AWP.block ?_ | refine AWP.region hX dK_ok rfl trivial ?_ | refine AWP.region hX dK_ok rfl id ?_ | refine AWP.region hX dK_ok rfl ⟨id, id⟩ ?_))
  (repeat (first | refine AWP.seq ?_ | refine AWP.skip ?_ | refine AWP.block ?_ | refine AWP.exit ?_)); refine AWP.region hX dK_ok rfl ?_ ?_
  · exact ⟨Int.natCast_nonneg _, Int.natCast_nonneg _⟩
  refine AWP.ret ⟨.inr rfl, done1 rfl trivial rfl rfl ?_⟩
  have ha := and31b k h1 h2
  show (x <<< (BitVec.ofInt 64 k &&& BitVec.ofNat 64 31).toNat) ||| (x >>> (BitVec.ofNat 64 32 - (BitVec.ofInt 64 k &&& BitVec.ofNat 64 31)).toNat) = rotr x (-k).toNat
  rw [BitVec.toNat_sub, ha]
  unfold rotr
  rw [BitVec.or_comm]
  congr 2
  · rw [BitVec.toNat_ofNat]; omega
  · omega
theorem test2 {p q : Prop} [Decidable p] [Decidable q] : (bif decide p then decide q else false) = true ↔ p ∧ q := by
  by_cases hp : p <;> simp [hp]
def valueR (c : UInt8) : UInt8 × Bool × Unit :=
  if 48 ≤ c.toNat ∧ c.toNat ≤ 57 then (c - 48, true, ())
  else if 97 ≤ c.toNat ∧ c.toNat ≤ 102 then (c - 97 + 10, true, ())
  else if 65 ≤ c.toNat ∧ c.toNat ≤ 70 then (c - 65 + 10, true, ())
  else (0, false, ())
def cValue : Ctr := { args := [u8], pre := fun _ => [], res := .tup u8 (.tup .bool .unit), own := none, out := fun x => valueR x.1 }
theorem value_ok : CtrOk Tryd.prog dG 33 cValue := by
  refine ctr_of_awp (K := dK) dK_ok Tryd.func33 rfl rfl Tryd.call33 rfl (by decide) (by intro h; cases h) ?_
  rintro w0 X hX ⟨(c : UInt8), _⟩ hp
  change AWP _ _ _ _ _ ⟨[(0, ⟨u8, c⟩)], [], 0⟩ _
  (repeat (first | refine AWP.seq ?_ | refine AWP.skip ?_ | refine AWP.label ?_ | refine AWP.exit ?_ | refine AWP.block ?_ | refine AWP.region hX dK_ok rfl trivial ?_ | refine AWP.region hX dK_ok rfl id ?_ | refine AWP.region hX dK_ok rfl ⟨id, id⟩ ?_))
  refine AWP.cond rfl (fun hb => ?_) (fun hb => ?_)
  · have hb : (bif decide ((((UInt8.ofNat (Int.toNat 48)).toNat : Nat) : Int) ≤ (c.toNat : Nat)) then decide (((c.toNat : Nat) : Int) ≤ ((UInt8.ofNat (Int.toNat 57)).toNat : Nat)) else false) = true := hb
    rw [test2] at hb
    (repeat (first | refine AWP.seq ?_ | refine AWP.skip ?_ | refine AWP.label ?_ | refine AWP.exit ?_ | refine AWP.block ?_ | refine AWP.region hX dK_ok rfl trivial ?_ | refine AWP.region hX dK_ok rfl id ?_ | refine AWP.region hX dK_ok rfl ⟨id, id⟩ ?_))
    refine AWP.ret ⟨.inr rfl, done2 (by decide) rfl rfl trivial ?_⟩
    show (_, _, _) = valueR c
    unfold valueR
    rw [if_pos (by have h1 : (48 : Int) ≤ (c.toNat : Nat) := hb.1; have h2 : ((c.toNat : Nat) : Int) ≤ 57 := hb.2; omega)]
    rfl
  have hb : (bif decide ((((UInt8.ofNat (Int.toNat 48)).toNat : Nat) : Int) ≤ (c.toNat : Nat)) then decide (((c.toNat : Nat) : Int) ≤ ((UInt8.ofNat (Int.toNat 57)).toNat : Nat)) else false) = false := hb
  have n1 : ¬ (48 ≤ c.toNat ∧ c.toNat ≤ 57) := fun h => by
    rw [← Bool.not_eq_true, test2] at hb
    exact hb ⟨by show (48 : Int) ≤ _; omega, by show _ ≤ (57 : Int); omega⟩
  clear hb
  (repeat (first | refine AWP.seq ?_ | refine AWP.skip ?_ | refine AWP.label ?_ | refine AWP.exit ?_ | refine AWP.block ?_ | refine AWP.region hX dK_ok rfl trivial ?_ | refine AWP.region hX dK_ok rfl id ?_ | refine AWP.region hX dK_ok rfl ⟨id, id⟩ ?_))
  refine AWP.cond rfl (fun hb => ?_) (fun hb => ?_)
  · have hb : (bif decide ((((UInt8.ofNat (Int.toNat 97)).toNat : Nat) : Int) ≤ (c.toNat : Nat)) then decide (((c.toNat : Nat) : Int) ≤ ((UInt8.ofNat (Int.toNat 102)).toNat : Nat)) else false) = true := hb
    rw [test2] at hb
    (repeat (first | refine AWP.seq ?_ | refine AWP.skip ?_ | refine AWP.label ?_ | refine AWP.exit ?_ | refine AWP.block ?_ | refine AWP.region hX dK_ok rfl trivial ?_ | refine AWP.region hX dK_ok rfl id ?_ | refine AWP.region hX dK_ok rfl ⟨id, id⟩ ?_))
    refine AWP.ret ⟨.inr rfl, done2 (by decide) rfl rfl trivial ?_⟩
    show (_, _, _) = valueR c
    unfold valueR
    rw [if_neg n1, if_pos (by have h1 : (97 : Int) ≤ (c.toNat : Nat) := hb.1; have h2 : ((c.toNat : Nat) : Int) ≤ 102 := hb.2; omega)]
    rfl
  have hb : (bif decide ((((UInt8.ofNat (Int.toNat 97)).toNat : Nat) : Int) ≤ (c.toNat : Nat)) then decide (((c.toNat : Nat) : Int) ≤ ((UInt8.ofNat (Int.toNat 102)).toNat : Nat)) else false) = false := hb
  have n2 : ¬ (97 ≤ c.toNat ∧ c.toNat ≤ 102) := fun h => by
    rw [← Bool.not_eq_true, test2] at hb
    exact hb ⟨by show (97 : Int) ≤ _; omega, by show _ ≤ (102 : Int); omega⟩
  clear hb
  (repeat (first | refine AWP.seq ?_ | refine AWP.skip ?_ | refine AWP.label ?_ | refine AWP.exit ?_ | refine AWP.block ?_ | refine AWP.region hX dK_ok rfl trivial ?_ | refine AWP.region hX dK_ok rfl id ?_ | refine AWP.region hX dK_ok rfl ⟨id, id⟩ ?_))
  refine AWP.cond rfl (fun hb => ?_) (fun hb => ?_)
  · have hb : (bif decide ((((UInt8.ofNat (Int.toNat 65)).toNat : Nat) : Int) ≤ (c.toNat : Nat)) then decide (((c.toNat : Nat) : Int) ≤ ((UInt8.ofNat (Int.toNat 70)).toNat : Nat)) else false) = true := hb
    rw [test2] at hb
    (repeat (first | refine AWP.seq ?_ | refine AWP.skip ?_ | refine AWP.label ?_ | refine AWP.exit ?_ | refine AWP.block ?_ | refine AWP.region hX dK_ok rfl trivial ?_ | refine AWP.region hX dK_ok rfl id ?_ | refine AWP.region hX dK_ok rfl ⟨id, id⟩ ?_))
    refine AWP.ret ⟨.inr rfl, done2 (by decide) rfl rfl trivial ?_⟩
    show (_, _, _) = valueR c
    unfold valueR
    rw [if_neg n1, if_neg n2, if_pos (by have h1 : (65 : Int) ≤ (c.toNat : Nat) := hb.1; have h2 : ((c.toNat : Nat) : Int) ≤ 70 := hb.2; omega)]
    rfl
  have hb : (bif decide ((((UInt8.ofNat (Int.toNat 65)).toNat : Nat) : Int) ≤ (c.toNat : Nat)) then decide (((c.toNat : Nat) : Int) ≤ ((UInt8.ofNat (Int.toNat 70)).toNat : Nat)) else false) = false := hb
  have n3 : ¬ (65 ≤ c.toNat ∧ c.toNat ≤ 70) := fun h => by
    rw [← Bool.not_eq_true, test2] at hb
    exact hb ⟨by show (65 : Int) ≤ _; omega, by show _ ≤ (70 : Int); omega⟩
  clear hb
  (repeat (first | refine AWP.seq ?_ | refine AWP.skip ?_ | refine AWP.label ?_ | refine AWP.exit ?_ | refine AWP.block ?_ | refine AWP.region hX dK_ok rfl trivial ?_ | refine AWP.region hX dK_ok rfl id ?_ | refine AWP.region hX dK_ok rfl ⟨id, id⟩ ?_))
  refine AWP.ret ⟨.inr rfl, done2 (by decide) rfl rfl trivial ?_⟩
  show (_, _, _) = valueR c
  unfold valueR
  rw [if_neg n1, if_neg n2, if_neg n3]
  rfl
theorem dig_value (c : UInt8) : decide (0 ≤ dig c) = (valueR c).2.1 ∧ ((valueR c).2.1 = true → dig c = ((valueR c).1.toNat : Nat) ∧ (valueR c).1.toNat < 16) := by
  have hc := c.toNat_lt
  have sub (k : Nat) (h : k ≤ c.toNat) : (c - UInt8.ofNat k).toNat = c.toNat - k := by
    rw [UInt8.toNat_sub_of_le _ _ (by rw [UInt8.le_iff_toNat_le, UInt8.toNat_ofNat']; omega), UInt8.toNat_ofNat']
    omega
  have add10 (x : UInt8) (h : x.toNat < 6) : (x + 10).toNat = x.toNat + 10 := by
    rw [UInt8.toNat_add]
    show (x.toNat + 10) % 256 = _
    omega
  unfold dig cDigit valueR
  simp only
  split
  · rename_i h
    have e := sub 48 h.1
    refine ⟨by simp only [decide_eq_true_iff]; omega, fun _ => ?_⟩
    show _ = (((c - UInt8.ofNat 48).toNat : Nat) : Int) ∧ (c - UInt8.ofNat 48).toNat < 16
    omega
  · split
    · rename_i h
      have e := sub 97 h.1
      have e2 := add10 (c - UInt8.ofNat 97) (by omega)
      refine ⟨by simp only [decide_eq_true_iff]; omega, fun _ => ?_⟩
      show _ = (((c - UInt8.ofNat 97 + 10).toNat : Nat) : Int) ∧ (c - UInt8.ofNat 97 + 10).toNat < 16
      omega
    · split
      · rename_i h
        have e := sub 65 h.1
        have e2 := add10 (c - UInt8.ofNat 65) (by omega)
        refine ⟨by simp only [decide_eq_true_iff]; omega, fun _ => ?_⟩
        show _ = (((c - UInt8.ofNat 65 + 10).toNat : Nat) : Int) ∧ (c - UInt8.ofNat 65 + 10).toNat < 16
        omega
      · exact ⟨rfl, fun h => by cases h⟩
theorem byteAt_value (s : List UInt8) (i : Nat) (h0 : (valueR (s.getD (2 * i) 0)).2.1 = true) (h1 : (valueR (s.getD (2 * i + 1) 0)).2.1 = true) : UInt8.ofNat ((valueR (s.getD (2 * i) 0)).1.toNat <<< 4) ||| (valueR (s.getD (2 * i + 1) 0)).1 = byteAt s i := by
  obtain ⟨d0, l0⟩ := (dig_value _).2 h0
  obtain ⟨d1, l1⟩ := (dig_value _).2 h1
  unfold byteAt
  rw [d0, d1]
  generalize (valueR (s.getD (2 * i) 0)).1 = x at *
  generalize (valueR (s.getD (2 * i + 1) 0)).1 = y at *
  have hs : x.toNat <<< 4 = 16 * x.toNat := by rw [Nat.shiftLeft_eq]; omega
  have ho : x.toNat <<< 4 ||| y.toNat = 16 * x.toNat + y.toNat := by rw [← Nat.shiftLeft_add_eq_or_of_lt (show y.toNat < 2 ^ 4 by omega), hs]
  have hb : ((16 * (x.toNat : Int) + (y.toNat : Int)) % 256).toNat = 16 * x.toNat + y.toNat := by omega
  apply UInt8.toNat_inj.1
  rw [UInt8.toNat_or, UInt8.toNat_ofNat', UInt8.toNat_ofNat', Nat.mod_eq_of_lt (show x.toNat <<< 4 < 2 ^ 8 by omega), ho, hb, Nat.mod_eq_of_lt (by omega)]
def kA : Kn := { dK with C := [(33, cValue), (41, cRot)] }
theorem kA_ok : KnOk Tryd.prog dG kA := dK_ok.with (CsOk.cons value_ok (CsOk.cons rot_ok CsOk.nil))
def cHex : Ctr := { args := [dg], pre := fun _ => [], res := .str, own := none, out := fun x => hex x.1 }
theorem hex_ok : CtrOk Tryd.prog dG 21 cHex := by
  refine ctr_of_awp (K := dK) dK_ok Tryd.func21 rfl rfl Tryd.call21 rfl (by decide) (by intro h; cases h) ?_
  rintro w0 X hX ⟨(d : List UInt8), _⟩ hp
  change AWP _ _ _ _ _ ⟨[(0, ⟨dg, d⟩)], [], 0⟩ _
  refine AWP.alen 0 rfl fun hd => ?_
  (repeat (first | refine AWP.seq ?_ | refine AWP.skip ?_ | refine AWP.label ?_ | refine AWP.exit ?_ | refine AWP.block ?_ | refine AWP.region hX dK_ok rfl trivial ?_ | refine AWP.region hX dK_ok rfl id ?_ | refine AWP.region hX dK_ok rfl ⟨id, id⟩ ?_))
  refine AWP.nilBuf hX 3 5 u8 rfl rfl rfl ?_
  refine AWP.loop (ι := Nat) (fun i => ⟨[(3, ⟨.obuf u8, (1 : Nat)⟩), (6, ⟨dg, d⟩), (7, ⟨i64, (i : Int)⟩)], [(1, some (.buf 5 u8 (hex (d.take i))))], 2⟩) (fun i => i ≤ 32) (fun i => 32 - i) 0 (by omega) ⟨⟨rfl, rfl, rfl, trivial⟩, ⟨rfl, trivial⟩, rfl, rfl⟩ ?_
  intro i hi
  (repeat (first | refine AWP.seq ?_ | refine AWP.skip ?_ | refine AWP.label ?_ | refine AWP.exit ?_ | refine AWP.block ?_ | refine AWP.region hX dK_ok rfl trivial ?_ | refine AWP.region hX dK_ok rfl id ?_ | refine AWP.region hX dK_ok rfl ⟨id, id⟩ ?_))
  refine AWP.cond rfl (fun hb => ?_) (fun hb => ?_)
  · simp at hb
    (repeat (first | refine AWP.seq ?_ | refine AWP.skip ?_ | refine AWP.block ?_ | refine AWP.exit ?_)); refine AWP.region hX dK_ok rfl ?_ ?_
    · exact ⟨by omega, by show (i : Int) < 32; omega⟩
    generalize hbd : List.getD d (i : Int).toNat 0 = b
    have hb8 := b.toNat_lt
    have q1 : (UInt8.ofNat (b.toNat >>> 4)).toNat = b.toNat / 16 := by rw [UInt8.toNat_ofNat', Nat.shiftRight_eq_div_pow]; omega
    have q2 : (b &&& UInt8.ofNat (Int.toNat 15)).toNat = b.toNat % 16 := by rw [UInt8.toNat_and]; exact Nat.and_two_pow_sub_one_eq_mod _ 4
    have hbd' : d.getD i 0 = b := hbd
    (repeat (first | refine AWP.seq ?_ | refine AWP.skip ?_ | refine AWP.block ?_ | refine AWP.exit ?_)); refine AWP.draw dM hX dK_ok 8 (by kernel_rfl) rfl rfl ?_ ?_ ?_
    · refine ⟨by decide, ?_, ?_, ?_, ?_⟩
      · show 0 ≤ (((UInt8.ofNat ((List.getD d (i : Int).toNat 0).toNat >>> 4)).toNat : Nat) : Int); omega
      · show (((UInt8.ofNat ((List.getD d (i : Int).toNat 0).toNat >>> 4)).toNat : Nat) : Int) < (16 : Nat); rw [hbd, q1]; omega
      · show 0 ≤ (((List.getD d (i : Int).toNat 0 &&& UInt8.ofNat (Int.toNat 15)).toNat : Nat) : Int); omega
      · show (((List.getD d (i : Int).toNat 0 &&& UInt8.ofNat (Int.toNat 15)).toNat : Nat) : Int) < (16 : Nat); rw [hbd, q2]; omega
    · show List.length (hex (d.take i)) + List.length [(_ : UInt8), _] ≤ _
      rw [hex_len]; simp; omega
    (repeat (first | refine AWP.seq ?_ | refine AWP.skip ?_ | refine AWP.block ?_ | refine AWP.exit ?_)); refine AWP.region hX dK_ok rfl ?_ ?_
    · exact inR_succ (by omega)
    refine ⟨i + 1, by omega, by omega, ⟨rfl, rfl, vSucc _, trivial⟩, ⟨bufEq ?_, trivial⟩, rfl, rfl⟩
    rw [take_snocD d i (by omega) 0, hex_snoc, hbd', ← hexStr_get _ (show b.toNat / 16 < 16 by omega), ← hexStr_get _ (show b.toNat % 16 < 16 by omega), ← q1, ← q2, ← hbd]
    rfl
  · simp at hb
    have : i = 32 := by omega
    subst this
    (repeat (first | refine AWP.seq ?_ | refine AWP.skip ?_ | refine AWP.label ?_ | refine AWP.exit ?_ | refine AWP.block ?_ | refine AWP.region hX dK_ok rfl trivial ?_ | refine AWP.region hX dK_ok rfl id ?_ | refine AWP.region hX dK_ok rfl ⟨id, id⟩ ?_))
    refine AWP.ret ⟨.inr rfl, done1 rfl trivial rfl rfl ?_⟩
    show hex (d.take 32) = hex d
    rw [List.take_of_length_le (by omega)]
def cUnhex : Ctr := { args := [.str], pre := fun _ => [], res := .tup dg (.tup i64 .unit), own := none, out := fun x => unhexR x.1 }
theorem unhex_ok : CtrOk Tryd.prog dG 23 cUnhex := by
  refine ctr_of_awp (K := kA) kA_ok Tryd.func23 rfl rfl Tryd.call23 rfl (by decide) (by intro h; cases h) ?_
  rintro w0 X hX ⟨(s : List UInt8), _⟩ hp
  change AWP _ _ _ _ _ ⟨[(0, ⟨.str, s⟩)], [], 0⟩ _
  refine AWP.slen 0 rfl fun hs => ?_
  (repeat (first | refine AWP.seq ?_ | refine AWP.skip ?_ | refine AWP.label ?_ | refine AWP.exit ?_ | refine AWP.block ?_ | refine AWP.region hX kA_ok rfl trivial ?_ | refine AWP.region hX kA_ok rfl id ?_ | refine AWP.region hX kA_ok rfl ⟨id, id⟩ ?_))
  refine AWP.cond rfl (fun hb => ?_) (fun hb => ?_)
  · simp at hb
    (repeat (first | refine AWP.seq ?_ | refine AWP.skip ?_ | refine AWP.label ?_ | refine AWP.exit ?_ | refine AWP.block ?_ | refine AWP.region hX kA_ok rfl trivial ?_ | refine AWP.region hX kA_ok rfl id ?_ | refine AWP.region hX kA_ok rfl ⟨id, id⟩ ?_))
    refine AWP.ret ⟨.inr rfl, done2 (by decide) rfl rfl trivial ?_⟩
    show (_, _, _) = unhexR s
    have : unhexS s = none := by unfold unhexS; rw [if_neg (by rintro ⟨h, _⟩; omega)]
    unfold unhexR
    rw [this]
    rfl
  · simp at hb
    have h64 : s.length = 64 := by omega
    (repeat (first | refine AWP.seq ?_ | refine AWP.skip ?_ | refine AWP.label ?_ | refine AWP.exit ?_ | refine AWP.block ?_ | refine AWP.region hX kA_ok rfl trivial ?_ | refine AWP.region hX kA_ok rfl id ?_ | refine AWP.region hX kA_ok rfl ⟨id, id⟩ ?_))
    refine AWP.loop (ι := Nat) (fun i => ⟨[(0, ⟨.str, s⟩), (2, ⟨.optr dg, ⟨0, dg, .here⟩⟩), (4, ⟨.optr dg, ⟨1, dg, .here⟩⟩), (14, ⟨i64, (i : Int)⟩)], [(0, some (.box dg (List.replicate 32 (0 : UInt8)))), (1, some (.box dg (unL s i)))], 2⟩) (fun i => i ≤ 32 ∧ ∀ j, j < i → goodAt s j = true) (fun i => 32 - i) 0 ⟨by omega, fun j h => by omega⟩ ⟨⟨rfl, rfl, rfl, rfl, trivial⟩, ⟨rfl, rfl, trivial⟩, rfl, rfl⟩ ?_
    rintro i ⟨hi, hgood⟩
    (repeat (first | refine AWP.seq ?_ | refine AWP.skip ?_ | refine AWP.label ?_ | refine AWP.exit ?_ | refine AWP.block ?_ | refine AWP.region hX kA_ok rfl trivial ?_ | refine AWP.region hX kA_ok rfl id ?_ | refine AWP.region hX kA_ok rfl ⟨id, id⟩ ?_))
    refine AWP.cond rfl (fun hb => ?_) (fun hb => ?_)
    · simp at hb
      rename_i hb0
      have e0 : (2 * (i : Int)).toNat = 2 * i := by omega
      have e1 : (2 * (i : Int) + 1).toNat = 2 * i + 1 := by omega
      (repeat (first | refine AWP.seq ?_ | refine AWP.skip ?_ | refine AWP.label ?_ | refine AWP.exit ?_ | refine AWP.block ?_ | refine AWP.region hX kA_ok rfl trivial ?_ | refine AWP.region hX kA_ok rfl id ?_ | refine AWP.region hX kA_ok rfl ⟨id, id⟩ ?_))
      (repeat (first | refine AWP.seq ?_ | refine AWP.skip ?_ | refine AWP.block ?_ | refine AWP.exit ?_)); refine AWP.region hX kA_ok rfl ?_ ?_
      · refine ⟨inR_small (by show _ ≤ 2 * (i : Int); omega) (by show 2 * (i : Int) ≤ _; omega), by show 0 ≤ 2 * (i : Int); omega, by show 2 * (i : Int) < (s.length : Nat); omega⟩
      (repeat (first | refine AWP.seq ?_ | refine AWP.skip ?_ | refine AWP.block ?_ | refine AWP.exit ?_)); refine AWP.region hX kA_ok rfl ?_ ?_
      · refine ⟨inR_small (by show _ ≤ 2 * (i : Int); omega) (by show 2 * (i : Int) ≤ _; omega), inR_small (by show _ ≤ 2 * (i : Int) + 1; omega) (by show 2 * (i : Int) + 1 ≤ _; omega), by show 0 ≤ 2 * (i : Int) + 1; omega, by show 2 * (i : Int) + 1 < (s.length : Nat); omega⟩
      (repeat (first | refine AWP.seq ?_ | refine AWP.skip ?_ | refine AWP.label ?_ | refine AWP.exit ?_ | refine AWP.block ?_ | refine AWP.region hX kA_ok rfl trivial ?_ | refine AWP.region hX kA_ok rfl id ?_ | refine AWP.region hX kA_ok rfl ⟨id, id⟩ ?_))
      have hdig0 := dig_value (s.getD (2 * i) 0)
      have hdig1 := dig_value (s.getD (2 * i + 1) 0)
      have hgd : goodAt s i = ((valueR (s.getD (2 * i) 0)).2.1 && (valueR (s.getD (2 * i + 1) 0)).2.1) := by
        unfold goodAt
        rw [hdig0.1, hdig1.1]
      refine AWP.cond rfl (fun hb => ?_) (fun hb => ?_)
      · have hb : (bif !(valueR (s.getD (2 * (i : Int)).toNat 0)).2.1 then true else !(valueR (s.getD (2 * (i : Int) + 1).toNat 0)).2.1) = true := hb
        rw [e0, e1] at hb
        (repeat (first | refine AWP.seq ?_ | refine AWP.skip ?_ | refine AWP.label ?_ | refine AWP.exit ?_ | refine AWP.block ?_ | refine AWP.region hX kA_ok rfl trivial ?_ | refine AWP.region hX kA_ok rfl id ?_ | refine AWP.region hX kA_ok rfl ⟨id, id⟩ ?_))
        refine AWP.ret ⟨.inr rfl, done2 (by decide) rfl rfl trivial ?_⟩
        have hng : goodAt s i = false := by
          rw [hgd]
          revert hb
          cases (valueR (s.getD (2 * i) 0)).2.1 <;> cases (valueR (s.getD (2 * i + 1) 0)).2.1 <;> simp
        have : unhexS s = none := by
          unfold unhexS
          rw [if_neg]
          rintro ⟨_, h⟩
          have := List.all_eq_true.1 h i (List.mem_range.2 (by omega))
          rw [hng] at this
          cases this
        show (_, _, _) = unhexR s
        unfold unhexR
        rw [this]
        rfl
      · have hb : (bif !(valueR (s.getD (2 * (i : Int)).toNat 0)).2.1 then true else !(valueR (s.getD (2 * (i : Int) + 1).toNat 0)).2.1) = false := hb
        rw [e0, e1] at hb
        have hv : (valueR (s.getD (2 * i) 0)).2.1 = true ∧ (valueR (s.getD (2 * i + 1) 0)).2.1 = true := by
          revert hb
          cases (valueR (s.getD (2 * i) 0)).2.1 <;> cases (valueR (s.getD (2 * i + 1) 0)).2.1 <;> simp
        have hg : goodAt s i = true := by
          rw [hgd, hv.1, hv.2]
          rfl
        (repeat (first | refine AWP.seq ?_ | refine AWP.skip ?_ | refine AWP.block ?_ | refine AWP.exit ?_)); refine AWP.region hX kA_ok rfl ?_ ?_
        · exact ⟨by decide, by omega, by show (i : Int) < 32; omega, by show (i : Int).toNat < 32; omega⟩
        (repeat (first | refine AWP.seq ?_ | refine AWP.skip ?_ | refine AWP.block ?_ | refine AWP.exit ?_)); refine AWP.region hX kA_ok rfl ?_ ?_
        · exact inR_succ (by omega)
        refine ⟨i + 1, ⟨by omega, fun j hj => ?_⟩, by omega, ⟨rfl, rfl, rfl, vSucc _, trivial⟩, ⟨rfl, boxEq ?_, trivial⟩, rfl, rfl⟩
        · rcases (by omega : j < i ∨ j = i) with h | rfl
          · exact hgood j h
          · exact hg
        · rw [← unL_set s i (by omega)]
          show List.set (unL s i) (i : Int).toNat (UInt8.ofNat ((valueR (s.getD (2 * (i : Int)).toNat 0)).1.toNat <<< 4) ||| (valueR (s.getD (2 * (i : Int) + 1).toNat 0)).1) = _
          rw [e0, e1]
          show List.set (unL s i) i _ = _
          rw [byteAt_value s i hv.1 hv.2]
    · simp at hb
      have : i = 32 := by omega
      subst this
      (repeat (first | refine AWP.seq ?_ | refine AWP.skip ?_ | refine AWP.label ?_ | refine AWP.exit ?_ | refine AWP.block ?_ | refine AWP.region hX kA_ok rfl trivial ?_ | refine AWP.region hX kA_ok rfl id ?_ | refine AWP.region hX kA_ok rfl ⟨id, id⟩ ?_))
      refine AWP.ret ⟨.inr rfl, done2 (by decide) rfl rfl trivial ?_⟩
      have : unhexS s = some ((List.range 32).map (byteAt s)) := by
        unfold unhexS
        rw [if_pos ⟨h64, List.all_eq_true.2 fun j hj => hgood j (List.mem_range.1 hj)⟩]
      show (_, _, _) = unhexR s
      unfold unhexR
      rw [this]
      show (unL s 32, _, _) = _
      simp [unL]
end Go.Proofs.YtpepbnieocdpbaaDoor
