/-
  The digest reference, fourth part: Bytes, Block, Keyed, Fields, Hex, Unhex, SameLists.
-/
import Derived.Test.YtpepbnieocdpbaaDoorDRefC
namespace Go.Proofs.YtpepbnieocdpbaaDoor
open Go Go.RowKit
set_option linter.unusedSimpArgs false
set_option linter.unusedVariables false
set_option maxRecDepth 100000
theorem take_snocD (l : List UInt8) (k : Nat) (h : k < l.length) (d : UInt8) : l.take (k + 1) = l.take k ++ [l.getD k d] := by
  rw [List.take_succ_eq_append_getElem h]; simp [List.getD, List.getElem?_eq_getElem h]
def cBytes : Ctr := { args := [dg], pre := fun _ => [], res := bs, own := some 5, out := fun x => x.1 }
theorem bytes_ok : CtrOk Tryd.prog dG 26 cBytes := by
  refine ctr_of_awp (K := dK) dK_ok Tryd.func26 rfl rfl Tryd.call26 rfl (by decide) (by intro h; cases h) ?_
  rintro w0 X hX ⟨(d : List UInt8), _⟩ hp
  change AWP _ _ _ _ _ ⟨[(0, ⟨dg, d⟩)], [], 0⟩ _
  refine AWP.alen 0 rfl fun hd => ?_
  (repeat (first | refine AWP.seq ?_ | refine AWP.skip ?_ | refine AWP.label ?_ | refine AWP.exit ?_ | refine AWP.block ?_ | refine AWP.region hX dK_ok rfl trivial ?_ | refine AWP.region hX dK_ok rfl id ?_ | refine AWP.region hX dK_ok rfl ⟨id, id⟩ ?_))
  refine AWP.loop (ι := Nat) (fun i => ⟨[(1, ⟨.optr dg, ⟨0, dg, .here⟩⟩), (3, ⟨.obuf u8, (1 : Nat)⟩), (4, ⟨i64, (i : Int)⟩)], [(0, some (.box dg d)), (1, some (.buf 5 u8 (d.take i)))], 2⟩) (fun i => i ≤ 32) (fun i => 32 - i) 0 (by omega) ⟨⟨rfl, rfl, rfl, trivial⟩, ⟨rfl, rfl, trivial⟩, rfl, rfl⟩ ?_
  intro i hi
  (repeat (first | refine AWP.seq ?_ | refine AWP.skip ?_ | refine AWP.label ?_ | refine AWP.exit ?_ | refine AWP.block ?_ | refine AWP.region hX dK_ok rfl trivial ?_ | refine AWP.region hX dK_ok rfl id ?_ | refine AWP.region hX dK_ok rfl ⟨id, id⟩ ?_))
  refine AWP.cond rfl (fun hb => ?_) (fun hb => ?_)
  · simp at hb
    (repeat (first | refine AWP.seq ?_ | refine AWP.skip ?_ | refine AWP.block ?_ | refine AWP.exit ?_)); refine AWP.region hX dK_ok rfl ?_ ?_
    · refine ⟨by omega, by show (i : Int) < 32; omega, by show (i : Int).toNat < 32; omega, ?_⟩
      show List.length (d.take i) + List.length [List.getD d (i : Int).toNat 0] ≤ _
      simp; omega
    (repeat (first | refine AWP.seq ?_ | refine AWP.skip ?_ | refine AWP.block ?_ | refine AWP.exit ?_)); refine AWP.region hX dK_ok rfl ?_ ?_
    · exact inR_succ (by omega)
    refine ⟨i + 1, by omega, by omega, ⟨rfl, rfl, vSucc _, trivial⟩, ⟨rfl, bufEq ?_, trivial⟩, rfl, rfl⟩
    rw [take_snocD d i (by omega) 0]
    rfl
  · simp at hb
    have : i = 32 := by omega
    subst this
    (repeat (first | refine AWP.seq ?_ | refine AWP.skip ?_ | refine AWP.label ?_ | refine AWP.exit ?_ | refine AWP.block ?_ | refine AWP.region hX dK_ok rfl trivial ?_ | refine AWP.region hX dK_ok rfl id ?_ | refine AWP.region hX dK_ok rfl ⟨id, id⟩ ?_))
    refine AWP.ret ⟨.inr rfl, doneO rfl rfl ?_⟩
    show d.take 32 = d
    exact List.take_of_length_le (by omega)
def cBlock : Ctr := { args := [dg, u8], pre := fun _ => [], res := bs, own := some 5, out := fun x => keyBlock x.1 x.2.1 }
theorem block_ok : CtrOk Tryd.prog dG 25 cBlock := by
  refine ctr_of_awp (K := dK) dK_ok Tryd.func25 rfl rfl Tryd.call25 rfl (by decide) (by intro h; cases h) ?_
  rintro w0 X hX ⟨(d : List UInt8), (b : UInt8), _⟩ hp
  change AWP _ _ _ _ _ ⟨[(0, ⟨dg, d⟩), (1, ⟨u8, b⟩)], [], 0⟩ _
  refine AWP.alen 0 rfl fun hd => ?_
  (repeat (first | refine AWP.seq ?_ | refine AWP.skip ?_ | refine AWP.label ?_ | refine AWP.exit ?_ | refine AWP.block ?_ | refine AWP.region hX dK_ok rfl trivial ?_ | refine AWP.region hX dK_ok rfl id ?_ | refine AWP.region hX dK_ok rfl ⟨id, id⟩ ?_))
  refine AWP.loop (ι := Nat) (fun i => ⟨[(1, ⟨u8, b⟩), (2, ⟨.optr dg, ⟨0, dg, .here⟩⟩), (5, ⟨.obuf u8, (1 : Nat)⟩), (6, ⟨i64, (i : Int)⟩)], [(0, some (.box dg d)), (1, some (.buf 5 u8 ((d.take i).map (· ^^^ b))))], 2⟩) (fun i => i ≤ 32) (fun i => 32 - i) 0 (by omega) ⟨⟨rfl, rfl, rfl, rfl, trivial⟩, ⟨rfl, rfl, trivial⟩, rfl, rfl⟩ ?_
  intro i hi
  (repeat (first | refine AWP.seq ?_ | refine AWP.skip ?_ | refine AWP.label ?_ | refine AWP.exit ?_ | refine AWP.block ?_ | refine AWP.region hX dK_ok rfl trivial ?_ | refine AWP.region hX dK_ok rfl id ?_ | refine AWP.region hX dK_ok rfl ⟨id, id⟩ ?_))
  refine AWP.cond rfl (fun hb => ?_) (fun hb => ?_)
  · simp at hb
    (repeat (first | refine AWP.seq ?_ | refine AWP.skip ?_ | refine AWP.block ?_ | refine AWP.exit ?_)); refine AWP.region hX dK_ok rfl ?_ ?_
    · refine ⟨by omega, by show (i : Int) < 32; omega, by show (i : Int).toNat < 32; omega, ?_⟩
      show List.length ((d.take i).map (· ^^^ b)) + List.length [List.getD d (i : Int).toNat 0 ^^^ b] ≤ _
      simp; omega
    (repeat (first | refine AWP.seq ?_ | refine AWP.skip ?_ | refine AWP.block ?_ | refine AWP.exit ?_)); refine AWP.region hX dK_ok rfl ?_ ?_
    · exact inR_succ (by omega)
    refine ⟨i + 1, by omega, by omega, ⟨rfl, rfl, rfl, vSucc _, trivial⟩, ⟨rfl, bufEq ?_, trivial⟩, rfl, rfl⟩
    rw [take_snocD d i (by omega) 0, List.map_append]
    rfl
  · simp at hb
    have : i = 32 := by omega
    subst this
    (repeat (first | refine AWP.seq ?_ | refine AWP.skip ?_ | refine AWP.label ?_ | refine AWP.exit ?_ | refine AWP.block ?_ | refine AWP.region hX dK_ok rfl trivial ?_ | refine AWP.region hX dK_ok rfl id ?_ | refine AWP.region hX dK_ok rfl ⟨id, id⟩ ?_))
    refine AWP.loop (ι := Nat) (fun i => ⟨[(1, ⟨u8, b⟩), (5, ⟨.obuf u8, (1 : Nat)⟩), (7, ⟨i64, (i : Int)⟩)], [(1, some (.buf 5 u8 (d.map (· ^^^ b) ++ List.replicate i b)))], 2⟩) (fun i => i ≤ 32) (fun i => 32 - i) 0 (by omega) ⟨⟨rfl, rfl, rfl, trivial⟩, ⟨bufEq (by rw [List.take_of_length_le (by omega)]; simp), trivial⟩, rfl, rfl⟩ ?_
    intro i hi
    (repeat (first | refine AWP.seq ?_ | refine AWP.skip ?_ | refine AWP.label ?_ | refine AWP.exit ?_ | refine AWP.block ?_ | refine AWP.region hX dK_ok rfl trivial ?_ | refine AWP.region hX dK_ok rfl id ?_ | refine AWP.region hX dK_ok rfl ⟨id, id⟩ ?_))
    refine AWP.cond rfl (fun hb => ?_) (fun hb => ?_)
    · simp at hb
      (repeat (first | refine AWP.seq ?_ | refine AWP.skip ?_ | refine AWP.block ?_ | refine AWP.exit ?_)); refine AWP.region hX dK_ok rfl ?_ ?_
      · show List.length (d.map (· ^^^ b) ++ List.replicate i b) + List.length [b] ≤ _
        simp; omega
      (repeat (first | refine AWP.seq ?_ | refine AWP.skip ?_ | refine AWP.block ?_ | refine AWP.exit ?_)); refine AWP.region hX dK_ok rfl ?_ ?_
      · exact inR_succ (by omega)
      refine ⟨i + 1, by omega, by omega, ⟨rfl, rfl, vSucc _, trivial⟩, ⟨bufEq ?_, trivial⟩, rfl, rfl⟩
      show List.map (· ^^^ b) d ++ List.replicate i b ++ [b] = _
      rw [List.replicate_succ', List.append_assoc]
    · simp at hb
      have : i = 32 := by omega
      subst this
      (repeat (first | refine AWP.seq ?_ | refine AWP.skip ?_ | refine AWP.label ?_ | refine AWP.exit ?_ | refine AWP.block ?_ | refine AWP.region hX dK_ok rfl trivial ?_ | refine AWP.region hX dK_ok rfl id ?_ | refine AWP.region hX dK_ok rfl ⟨id, id⟩ ?_))
      refine AWP.ret ⟨.inr rfl, doneO rfl rfl ?_⟩
      rfl
def k4 : Kn := { dK with C := [(16, cRSum), (25, cBlock), (26, cBytes), (27, cEncoding), (29, cDigit)] }
theorem k4_ok : KnOk Tryd.prog dG k4 := dK_ok.with (CsOk.cons rsum_ok (CsOk.cons block_ok (CsOk.cons bytes_ok (CsOk.cons encoding_ok (CsOk.cons digit_ok CsOk.nil)))))
def cRKeyed : Ctr := { args := [dg, bs], pre := fun x => [List.length x.2.1 ≤ 900000], res := dg, own := none, out := fun x => hmac x.1 x.2.1 }
theorem keyBlock_len (d : List UInt8) (b : UInt8) (h : d.length = 32) : (keyBlock d b).length = 64 := by simp [keyBlock, h]
theorem rkeyed_ok : CtrOk Tryd.prog dG 18 cRKeyed := by
  refine ctr_of_awp (K := k4) k4_ok Tryd.func18 rfl rfl Tryd.call18 rfl (by decide) (by intro h; cases h) ?_
  rintro w0 X hX ⟨(d : List UInt8), (l : List UInt8), _⟩ hp
  change AWP _ _ _ _ _ ⟨[(0, ⟨dg, d⟩), (1, ⟨bs, l⟩)], [], 0⟩ _
  have hp : l.length ≤ 900000 := hp
  refine AWP.alen 0 rfl fun hd => ?_
  have k1 := keyBlock_len d 0x36 hd
  have k2 := keyBlock_len d 0x5c hd
  have k3 := sha_length (keyBlock d 0x36 ++ l)
  (repeat (first | refine AWP.seq ?_ | refine AWP.skip ?_ | refine AWP.label ?_ | refine AWP.exit ?_ | refine AWP.block ?_ | refine AWP.region hX k4_ok rfl trivial ?_ | refine AWP.region hX k4_ok rfl id ?_ | refine AWP.region hX k4_ok rfl ⟨id, id⟩ ?_))
  (repeat (first | refine AWP.seq ?_ | refine AWP.skip ?_ | refine AWP.block ?_ | refine AWP.exit ?_)); refine AWP.region hX k4_ok rfl ?_ ?_
  · refine ⟨?_, ?_⟩
    · show List.length (keyBlock d 0x36) + l.length ≤ _; omega
    · show List.length (keyBlock d 0x36 ++ l) ≤ _; simp; omega
  (repeat (first | refine AWP.seq ?_ | refine AWP.skip ?_ | refine AWP.label ?_ | refine AWP.exit ?_ | refine AWP.block ?_ | refine AWP.region hX k4_ok rfl trivial ?_ | refine AWP.region hX k4_ok rfl id ?_ | refine AWP.region hX k4_ok rfl ⟨id, id⟩ ?_))
  (repeat (first | refine AWP.seq ?_ | refine AWP.skip ?_ | refine AWP.block ?_ | refine AWP.exit ?_)); refine AWP.region hX k4_ok rfl ?_ ?_
  · refine ⟨?_, ?_⟩
    · show List.length (keyBlock d 0x5c) + List.length (sha (keyBlock d 0x36 ++ l)) ≤ _; omega
    · show List.length (keyBlock d 0x5c ++ sha (keyBlock d 0x36 ++ l)) ≤ _; simp; omega
  refine AWP.ret ⟨.inr rfl, done1 rfl trivial rfl rfl ?_⟩
  rfl
def cRFields : Ctr := { args := [.slice bs], pre := fun x => [(encoding x.1).length ≤ 2000000], res := dg, own := none, out := fun x => fields x.1 }
theorem rfields_ok : CtrOk Tryd.prog dG 20 cRFields := by
  refine ctr_of_awp (K := k4) k4_ok Tryd.func20 rfl rfl Tryd.call20 rfl (by decide) (by intro h; cases h) ?_
  rintro w0 X hX ⟨(l : List (List UInt8)), _⟩ hp
  change AWP _ _ _ _ _ ⟨[(0, ⟨.slice bs, l⟩)], [], 0⟩ _
  have hp : (encoding l).length ≤ 2000000 := hp
  (repeat (first | refine AWP.seq ?_ | refine AWP.skip ?_ | refine AWP.label ?_ | refine AWP.exit ?_ | refine AWP.block ?_ | refine AWP.region hX k4_ok rfl trivial ?_ | refine AWP.region hX k4_ok rfl id ?_ | refine AWP.region hX k4_ok rfl ⟨id, id⟩ ?_))
  (repeat (first | refine AWP.seq ?_ | refine AWP.skip ?_ | refine AWP.block ?_ | refine AWP.exit ?_)); refine AWP.region hX k4_ok rfl ?_ ?_
  · exact ⟨hp, hp⟩
  refine AWP.ret ⟨.inr rfl, done1 rfl trivial rfl rfl ?_⟩
  rfl
/-! ### hexadecimal digits -/
def hexStr : List UInt8 := [48, 49, 50, 51, 52, 53, 54, 55, 56, 57, 97, 98, 99, 100, 101, 102]
theorem hexStr_get (n : Nat) (h : n < 16) : hexStr.getD n 0 = hexDigit n := by
  rcases (by omega : n = 0 ∨ n = 1 ∨ n = 2 ∨ n = 3 ∨ n = 4 ∨ n = 5 ∨ n = 6 ∨ n = 7 ∨ n = 8 ∨ n = 9 ∨ n = 10 ∨ n = 11 ∨ n = 12 ∨ n = 13 ∨ n = 14 ∨ n = 15) with rfl | rfl | rfl | rfl | rfl | rfl | rfl | rfl | rfl | rfl | rfl | rfl | rfl | rfl | rfl | rfl <;> rfl
theorem hex_snoc (l : List UInt8) (b : UInt8) : hex (l ++ [b]) = hex l ++ [hexDigit (b.toNat / 16), hexDigit (b.toNat % 16)] := by simp [hex]
theorem hex_len (l : List UInt8) : (hex l).length = 2 * l.length := by
  induction l with
  | nil => rfl
  | cons b l ih => simp only [hex, List.flatMap_cons, List.length_append, List.length_cons, List.length_nil] at *; omega
def cRHex : Ctr := { args := [dg], pre := fun _ => [], res := .str, own := none, out := fun x => hex x.1 }
theorem rhex_ok : CtrOk Tryd.prog dG 22 cRHex := by
  refine ctr_of_awp (K := dK) dK_ok Tryd.func22 rfl rfl Tryd.call22 rfl (by decide) (by intro h; cases h) ?_
  rintro w0 X hX ⟨(d : List UInt8), _⟩ hp
  change AWP _ _ _ _ _ ⟨[(0, ⟨dg, d⟩)], [], 0⟩ _
  refine AWP.alen 0 rfl fun hd => ?_
  (repeat (first | refine AWP.seq ?_ | refine AWP.skip ?_ | refine AWP.label ?_ | refine AWP.exit ?_ | refine AWP.block ?_ | refine AWP.region hX dK_ok rfl trivial ?_ | refine AWP.region hX dK_ok rfl id ?_ | refine AWP.region hX dK_ok rfl ⟨id, id⟩ ?_))
  refine AWP.loop (ι := Nat) (fun i => ⟨[(1, ⟨.optr dg, ⟨0, dg, .here⟩⟩), (3, ⟨.str, hexStr⟩), (4, ⟨.obuf u8, (1 : Nat)⟩), (5, ⟨i64, (i : Int)⟩)], [(0, some (.box dg d)), (1, some (.buf 5 u8 (hex (d.take i))))], 2⟩) (fun i => i ≤ 32) (fun i => 32 - i) 0 (by omega) ⟨⟨rfl, rfl, rfl, rfl, trivial⟩, ⟨rfl, rfl, trivial⟩, rfl, rfl⟩ ?_
  intro i hi
  (repeat (first | refine AWP.seq ?_ | refine AWP.skip ?_ | refine AWP.label ?_ | refine AWP.exit ?_ | refine AWP.block ?_ | refine AWP.region hX dK_ok rfl trivial ?_ | refine AWP.region hX dK_ok rfl id ?_ | refine AWP.region hX dK_ok rfl ⟨id, id⟩ ?_))
  refine AWP.cond rfl (fun hb => ?_) (fun hb => ?_)
  · simp at hb
    generalize hbd : List.getD d (i : Int).toNat 0 = b
    have hb8 := b.toNat_lt
    have q1 : (b / UInt8.ofNat (Int.toNat 16)).toNat = b.toNat / 16 := by rw [UInt8.toNat_div]; rfl
    have q2 : (b % UInt8.ofNat (Int.toNat 16)).toNat = b.toNat % 16 := by rw [UInt8.toNat_mod]; rfl
    (repeat (first | refine AWP.seq ?_ | refine AWP.skip ?_ | refine AWP.block ?_ | refine AWP.exit ?_)); refine AWP.draw dM hX dK_ok 14 (by kernel_rfl) rfl rfl ?_ ?_ ?_
    · refine ⟨by omega, by show (i : Int) < 32; omega, by show (i : Int).toNat < 32; omega, by decide, ?_, ?_, by omega, by show (i : Int) < 32; omega, by show (i : Int).toNat < 32; omega, by decide, ?_, ?_⟩
      · show 0 ≤ (((List.getD d (i : Int).toNat 0 / UInt8.ofNat (Int.toNat 16)).toNat : Nat) : Int); omega
      · show (((List.getD d (i : Int).toNat 0 / UInt8.ofNat (Int.toNat 16)).toNat : Nat) : Int) < (16 : Nat); rw [hbd, q1]; omega
      · show 0 ≤ (((List.getD d (i : Int).toNat 0 % UInt8.ofNat (Int.toNat 16)).toNat : Nat) : Int); omega
      · show (((List.getD d (i : Int).toNat 0 % UInt8.ofNat (Int.toNat 16)).toNat : Nat) : Int) < (16 : Nat); rw [hbd, q2]; omega
    · show List.length (hex (d.take i)) + List.length [(_ : UInt8), _] ≤ _
      rw [hex_len]; simp; omega
    (repeat (first | refine AWP.seq ?_ | refine AWP.skip ?_ | refine AWP.block ?_ | refine AWP.exit ?_)); refine AWP.region hX dK_ok rfl ?_ ?_
    · exact inR_succ (by omega)
    refine ⟨i + 1, by omega, by omega, ⟨rfl, rfl, rfl, vSucc _, trivial⟩, ⟨rfl, bufEq ?_, trivial⟩, rfl, rfl⟩
    have hbd' : d.getD i 0 = b := hbd
    rw [take_snocD d i (by omega) 0, hex_snoc, hbd', ← hexStr_get _ (show b.toNat / 16 < 16 by omega), ← hexStr_get _ (show b.toNat % 16 < 16 by omega), ← q1, ← q2, ← hbd]
    rfl
  · simp at hb
    have : i = 32 := by omega
    subst this
    (repeat (first | refine AWP.seq ?_ | refine AWP.skip ?_ | refine AWP.label ?_ | refine AWP.exit ?_ | refine AWP.block ?_ | refine AWP.region hX dK_ok rfl trivial ?_ | refine AWP.region hX dK_ok rfl id ?_ | refine AWP.region hX dK_ok rfl ⟨id, id⟩ ?_))
    refine AWP.ret ⟨.inr rfl, done1 rfl trivial rfl rfl ?_⟩
    show hex (d.take 32) = hex d
    rw [List.take_of_length_le (by omega)]
def dig (c : UInt8) : Int := cDigit.out (c, ())
def goodAt (s : List UInt8) (j : Nat) : Bool := decide (0 ≤ dig (s.getD (2 * j) 0)) && decide (0 ≤ dig (s.getD (2 * j + 1) 0))
def byteAt (s : List UInt8) (j : Nat) : UInt8 := UInt8.ofNat ((16 * dig (s.getD (2 * j) 0) + dig (s.getD (2 * j + 1) 0)) % 256).toNat
def unhexS (s : List UInt8) : Option (List UInt8) := if s.length = 64 ∧ (List.range 32).all (goodAt s) = true then some ((List.range 32).map (byteAt s)) else none
def unhexR (s : List UInt8) : List UInt8 × Int × Unit := match unhexS s with
  | some d => (d, 0, ())
  | none => (List.replicate 32 0, 3, ())
theorem goodAt_iff {s : List UInt8} {j : Nat} : goodAt s j = true ↔ 0 ≤ dig (s.getD (2 * j) 0) ∧ 0 ≤ dig (s.getD (2 * j + 1) 0) := by
  unfold goodAt
  rw [Bool.and_eq_true, decide_eq_true_iff, decide_eq_true_iff]
theorem dig_bound (c : UInt8) : -1 ≤ dig c ∧ dig c ≤ 15 := by
  unfold dig cDigit
  simp only
  split
  · omega
  · split
    · omega
    · split <;> omega
def cRUnhex : Ctr := { args := [.str], pre := fun _ => [], res := .tup dg (.tup i64 .unit), own := none, out := fun x => unhexR x.1 }
def unL (s : List UInt8) (i : Nat) : List UInt8 := (List.range i).map (byteAt s) ++ List.replicate (32 - i) 0
theorem unL_set (s : List UInt8) (i : Nat) (h : i < 32) : (unL s i).set i (byteAt s i) = unL s (i + 1) := by
  unfold unL
  rw [List.set_append_right _ _ (by simp)]
  simp only [List.length_map, List.length_range, Nat.sub_self, List.range_succ, List.map_append, List.append_assoc, List.map_cons, List.map_nil]
  rw [show 32 - i = (32 - (i + 1)) + 1 by omega, List.replicate_succ]
  rfl
theorem runhex_ok : CtrOk Tryd.prog dG 24 cRUnhex := by
  refine ctr_of_awp (K := k4) k4_ok Tryd.func24 rfl rfl Tryd.call24 rfl (by decide) (by intro h; cases h) ?_
  rintro w0 X hX ⟨(s : List UInt8), _⟩ hp
  change AWP _ _ _ _ _ ⟨[(0, ⟨.str, s⟩)], [], 0⟩ _
  refine AWP.slen 0 rfl fun hs => ?_
  (repeat (first | refine AWP.seq ?_ | refine AWP.skip ?_ | refine AWP.label ?_ | refine AWP.exit ?_ | refine AWP.block ?_ | refine AWP.region hX k4_ok rfl trivial ?_ | refine AWP.region hX k4_ok rfl id ?_ | refine AWP.region hX k4_ok rfl ⟨id, id⟩ ?_))
  refine AWP.cond rfl (fun hb => ?_) (fun hb => ?_)
  · simp at hb
    (repeat (first | refine AWP.seq ?_ | refine AWP.skip ?_ | refine AWP.label ?_ | refine AWP.exit ?_ | refine AWP.block ?_ | refine AWP.region hX k4_ok rfl trivial ?_ | refine AWP.region hX k4_ok rfl id ?_ | refine AWP.region hX k4_ok rfl ⟨id, id⟩ ?_))
    refine AWP.ret ⟨.inr rfl, done2 (by decide) rfl rfl trivial ?_⟩
    show (_, _, _) = unhexR s
    have : unhexS s = none := by unfold unhexS; rw [if_neg (by rintro ⟨h, _⟩; omega)]
    unfold unhexR
    rw [this]
    rfl
  · simp at hb
    have h64 : s.length = 64 := by omega
    (repeat (first | refine AWP.seq ?_ | refine AWP.skip ?_ | refine AWP.label ?_ | refine AWP.exit ?_ | refine AWP.block ?_ | refine AWP.region hX k4_ok rfl trivial ?_ | refine AWP.region hX k4_ok rfl id ?_ | refine AWP.region hX k4_ok rfl ⟨id, id⟩ ?_))
    refine AWP.loop (ι := Nat) (fun i => ⟨[(0, ⟨.str, s⟩), (2, ⟨.optr dg, ⟨0, dg, .here⟩⟩), (4, ⟨.optr dg, ⟨1, dg, .here⟩⟩), (5, ⟨i64, (i : Int)⟩)], [(0, some (.box dg (List.replicate 32 (0 : UInt8)))), (1, some (.box dg (unL s i)))], 2⟩) (fun i => i ≤ 32 ∧ ∀ j, j < i → goodAt s j = true) (fun i => 32 - i) 0 ⟨by omega, fun j h => by omega⟩ ⟨⟨rfl, rfl, rfl, rfl, trivial⟩, ⟨rfl, rfl, trivial⟩, rfl, rfl⟩ ?_
    rintro i ⟨hi, hgood⟩
    (repeat (first | refine AWP.seq ?_ | refine AWP.skip ?_ | refine AWP.label ?_ | refine AWP.exit ?_ | refine AWP.block ?_ | refine AWP.region hX k4_ok rfl trivial ?_ | refine AWP.region hX k4_ok rfl id ?_ | refine AWP.region hX k4_ok rfl ⟨id, id⟩ ?_))
    refine AWP.cond rfl (fun hb => ?_) (fun hb => ?_)
    · simp at hb
      rename_i hb0
      have b0 := dig_bound (s.getD (2 * (i : Int)).toNat 0)
      have b1 := dig_bound (s.getD (2 * (i : Int) + 1).toNat 0)
      have e0 : (2 * (i : Int)).toNat = 2 * i := by omega
      have e1 : (2 * (i : Int) + 1).toNat = 2 * i + 1 := by omega
      (repeat (first | refine AWP.seq ?_ | refine AWP.skip ?_ | refine AWP.block ?_ | refine AWP.exit ?_)); refine AWP.draw dM hX k4_ok 13 (by kernel_rfl) rfl rfl ?_ ?_ ?_
      · refine ⟨inR_small (by show _ ≤ 2 * (i : Int); omega) (by show 2 * (i : Int) ≤ _; omega), by show 0 ≤ 2 * (i : Int); omega, by show 2 * (i : Int) < (s.length : Nat); omega,
          inR_small (by show _ ≤ 2 * (i : Int); omega) (by show 2 * (i : Int) ≤ _; omega), inR_small (by show _ ≤ 2 * (i : Int) + 1; omega) (by show 2 * (i : Int) + 1 ≤ _; omega), by show 0 ≤ 2 * (i : Int) + 1; omega, by show 2 * (i : Int) + 1 < (s.length : Nat); omega⟩
      · trivial
      (repeat (first | refine AWP.seq ?_ | refine AWP.skip ?_ | refine AWP.label ?_ | refine AWP.exit ?_ | refine AWP.block ?_ | refine AWP.region hX k4_ok rfl trivial ?_ | refine AWP.region hX k4_ok rfl id ?_ | refine AWP.region hX k4_ok rfl ⟨id, id⟩ ?_))
      refine AWP.cond rfl (fun hb => ?_) (fun hb => ?_)
      · have hb : (bif decide (dig (s.getD (2 * (i : Int)).toNat 0) < 0) then true else decide (dig (s.getD (2 * (i : Int) + 1).toNat 0) < 0)) = true := hb
        rw [e0, e1] at hb
        (repeat (first | refine AWP.seq ?_ | refine AWP.skip ?_ | refine AWP.label ?_ | refine AWP.exit ?_ | refine AWP.block ?_ | refine AWP.region hX k4_ok rfl trivial ?_ | refine AWP.region hX k4_ok rfl id ?_ | refine AWP.region hX k4_ok rfl ⟨id, id⟩ ?_))
        refine AWP.ret ⟨.inr rfl, done2 (by decide) rfl rfl trivial ?_⟩
        have hng : goodAt s i = false := by
          rw [← Bool.not_eq_true, goodAt_iff]
          cases h1 : decide (dig (s.getD (2 * i) 0) < 0) with
          | true =>
            have h1 := of_decide_eq_true h1
            omega
          | false =>
            rw [h1] at hb
            have h2 := of_decide_eq_true hb
            omega
        have : unhexS s = none := by
          unfold unhexS
          rw [if_neg]
          rintro ⟨_, h⟩
          have := List.all_eq_true.1 h i (List.mem_range.2 (by omega))
          rw [hng] at this
          cases this
        show (_, _, _) = unhexR s
        unfold unhexR
        rw [this]
        rfl
      · have hb : (bif decide (dig (s.getD (2 * (i : Int)).toNat 0) < 0) then true else decide (dig (s.getD (2 * (i : Int) + 1).toNat 0) < 0)) = false := hb
        rw [e0, e1] at hb
        have hg : goodAt s i = true := by
          rw [goodAt_iff]
          cases h1 : decide (dig (s.getD (2 * i) 0) < 0) with
          | true => rw [h1] at hb; cases hb
          | false =>
            rw [h1] at hb
            have h2 := of_decide_eq_false hb
            have h3 := of_decide_eq_false h1
            omega
        (repeat (first | refine AWP.seq ?_ | refine AWP.skip ?_ | refine AWP.block ?_ | refine AWP.exit ?_)); refine AWP.region hX k4_ok rfl ?_ ?_
        · refine ⟨inR_small (by show _ ≤ 16 * dig (s.getD (2 * (i : Int)).toNat 0); omega) (by show 16 * dig (s.getD (2 * (i : Int)).toNat 0) ≤ _; omega),
            inR_small (by show _ ≤ 16 * dig (s.getD (2 * (i : Int)).toNat 0) + dig (s.getD (2 * (i : Int) + 1).toNat 0); omega) (by show 16 * dig (s.getD (2 * (i : Int)).toNat 0) + dig (s.getD (2 * (i : Int) + 1).toNat 0) ≤ _; omega), by omega, by show (i : Int) < 32; omega, by show (i : Int).toNat < 32; omega⟩
        (repeat (first | refine AWP.seq ?_ | refine AWP.skip ?_ | refine AWP.block ?_ | refine AWP.exit ?_)); refine AWP.region hX k4_ok rfl ?_ ?_
        · exact inR_succ (by omega)
        refine ⟨i + 1, ⟨by omega, fun j hj => ?_⟩, by omega, ⟨rfl, rfl, rfl, vSucc _, trivial⟩, ⟨rfl, boxEq ?_, trivial⟩, rfl, rfl⟩
        · rcases (by omega : j < i ∨ j = i) with h | rfl
          · exact hgood j h
          · exact hg
        · rw [← unL_set s i (by omega)]
          show List.set (unL s i) (i : Int).toNat (UInt8.ofNat ((16 * dig (s.getD (2 * (i : Int)).toNat 0) + dig (s.getD (2 * (i : Int) + 1).toNat 0)) % 256).toNat) = _
          rw [e0, e1]
          rfl
    · simp at hb
      have : i = 32 := by omega
      subst this
      (repeat (first | refine AWP.seq ?_ | refine AWP.skip ?_ | refine AWP.label ?_ | refine AWP.exit ?_ | refine AWP.block ?_ | refine AWP.region hX k4_ok rfl trivial ?_ | refine AWP.region hX k4_ok rfl id ?_ | refine AWP.region hX k4_ok rfl ⟨id, id⟩ ?_))
      refine AWP.ret ⟨.inr rfl, done2 (by decide) rfl rfl trivial ?_⟩
      have : unhexS s = some ((List.range 32).map (byteAt s)) := by
        unfold unhexS
        rw [if_pos ⟨h64, List.all_eq_true.2 fun j hj => hgood j (List.mem_range.1 hj)⟩]
      show (_, _, _) = unhexR s
      unfold unhexR
      rw [this]
      show (unL s 32, _, _) = _
      simp [unL]
def sameL (a b : List (List UInt8)) : Bool := decide (a = b)
def cSame : Ctr := { args := [.slice bs, .slice bs], pre := fun _ => [], res := .bool, own := none, out := fun x => sameL x.1 x.2.1 }
theorem same_ok : CtrOk Tryd.prog dG 28 cSame := by
  refine ctr_of_awp (K := dK) dK_ok Tryd.func28 rfl rfl Tryd.call28 rfl (by decide) (by intro h; cases h) ?_
  rintro w0 X hX ⟨(a : List (List UInt8)), (b : List (List UInt8)), _⟩ hp
  change AWP _ _ _ _ _ ⟨[(0, ⟨.slice bs, a⟩), (1, ⟨.slice bs, b⟩)], [], 0⟩ _
  refine AWP.len 0 rfl fun ha => ?_
  unfold maxLen at ha
  (repeat (first | refine AWP.seq ?_ | refine AWP.skip ?_ | refine AWP.label ?_ | refine AWP.exit ?_ | refine AWP.block ?_ | refine AWP.region hX dK_ok rfl trivial ?_ | refine AWP.region hX dK_ok rfl id ?_ | refine AWP.region hX dK_ok rfl ⟨id, id⟩ ?_))
  refine AWP.cond rfl (fun hb => ?_) (fun hb => ?_)
  · simp at hb
    (repeat (first | refine AWP.seq ?_ | refine AWP.skip ?_ | refine AWP.label ?_ | refine AWP.exit ?_ | refine AWP.block ?_ | refine AWP.region hX dK_ok rfl trivial ?_ | refine AWP.region hX dK_ok rfl id ?_ | refine AWP.region hX dK_ok rfl ⟨id, id⟩ ?_))
    refine AWP.ret ⟨.inr rfl, done1 rfl trivial rfl rfl ?_⟩
    show false = sameL a b
    unfold sameL
    symm
    rw [decide_eq_false_iff_not]
    rintro rfl
    exact hb rfl
  · simp at hb
    (repeat (first | refine AWP.seq ?_ | refine AWP.skip ?_ | refine AWP.label ?_ | refine AWP.exit ?_ | refine AWP.block ?_ | refine AWP.region hX dK_ok rfl trivial ?_ | refine AWP.region hX dK_ok rfl id ?_ | refine AWP.region hX dK_ok rfl ⟨id, id⟩ ?_))
    refine AWP.loop (ι := Nat) (fun i => ⟨[(0, ⟨.slice bs, a⟩), (1, ⟨.slice bs, b⟩), (5, ⟨i64, (i : Int)⟩)], [], 0⟩) (fun i => i ≤ a.length ∧ a.take i = b.take i) (fun i => a.length - i) 0 ⟨by omega, by simp⟩ ⟨⟨rfl, rfl, rfl, trivial⟩, trivial, rfl, rfl⟩ ?_
    rintro i ⟨hi, heq⟩
    (repeat (first | refine AWP.seq ?_ | refine AWP.skip ?_ | refine AWP.label ?_ | refine AWP.exit ?_ | refine AWP.block ?_ | refine AWP.region hX dK_ok rfl trivial ?_ | refine AWP.region hX dK_ok rfl id ?_ | refine AWP.region hX dK_ok rfl ⟨id, id⟩ ?_))
    rename_i hab
    refine AWP.cond rfl (fun hb => ?_) (fun hb => ?_)
    · simp at hb
      (repeat (first | refine AWP.seq ?_ | refine AWP.skip ?_ | refine AWP.block ?_ | refine AWP.exit ?_)); refine AWP.draw dM hX dK_ok 11 (by kernel_rfl) rfl rfl ?_ ?_ ?_
      · refine ⟨by omega, by show (i : Int) < (a.length : Nat); omega, by omega, by show (i : Int) < (b.length : Nat); omega⟩
      · trivial
      have ga : List.getD a (i : Int).toNat [] = a[i]'(by omega) := by simp [List.getD, List.getElem?_eq_getElem hb]
      have gb : List.getD b (i : Int).toNat [] = b[i]'(by omega) := by simp [List.getD, List.getElem?_eq_getElem (show i < b.length by omega)]
      refine AWP.cond rfl (fun hb => ?_) (fun hb => ?_)
      · have hb : (!eqb .str (List.getD a (i : Int).toNat []) (List.getD b (i : Int).toNat [])) = true := hb
        rw [Bool.not_eq_true', ga, gb] at hb
        (repeat (first | refine AWP.seq ?_ | refine AWP.skip ?_ | refine AWP.label ?_ | refine AWP.exit ?_ | refine AWP.block ?_ | refine AWP.region hX dK_ok rfl trivial ?_ | refine AWP.region hX dK_ok rfl id ?_ | refine AWP.region hX dK_ok rfl ⟨id, id⟩ ?_))
        refine AWP.ret ⟨.inr rfl, done1 rfl trivial rfl rfl ?_⟩
        show false = sameL a b
        unfold sameL
        symm
        rw [decide_eq_false_iff_not]
        rintro rfl
        rw [eqb_self] at hb
        cases hb
      · have hb : (!eqb .str (List.getD a (i : Int).toNat []) (List.getD b (i : Int).toNat [])) = false := hb
        rw [Bool.not_eq_false', ga, gb] at hb
        have he := eqb_iff.1 hb
        (repeat (first | refine AWP.seq ?_ | refine AWP.skip ?_ | refine AWP.block ?_ | refine AWP.exit ?_)); refine AWP.region hX dK_ok rfl ?_ ?_
        · exact inR_succ (by omega)
        refine ⟨i + 1, ⟨by omega, ?_⟩, by omega, ⟨rfl, rfl, vSucc _, trivial⟩, trivial, rfl, rfl⟩
        rw [List.take_succ_eq_append_getElem (by omega), List.take_succ_eq_append_getElem (by omega), heq, he]
    · simp at hb
      have : i = a.length := by omega
      subst this
      (repeat (first | refine AWP.seq ?_ | refine AWP.skip ?_ | refine AWP.label ?_ | refine AWP.exit ?_ | refine AWP.block ?_ | refine AWP.region hX dK_ok rfl trivial ?_ | refine AWP.region hX dK_ok rfl id ?_ | refine AWP.region hX dK_ok rfl ⟨id, id⟩ ?_))
      refine AWP.ret ⟨.inr rfl, done1 rfl trivial rfl rfl ?_⟩
      show true = sameL a b
      unfold sameL
      symm
      rw [decide_eq_true_iff]
      rw [List.take_length, List.take_of_length_le (by omega)] at heq
      exact heq
end Go.Proofs.YtpepbnieocdpbaaDoor
