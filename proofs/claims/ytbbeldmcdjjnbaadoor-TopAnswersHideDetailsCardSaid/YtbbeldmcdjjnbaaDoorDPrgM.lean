/-
  Package digest, first part: the rotation of the library, the value of a digit, Hex, Unhex.
  Package digest, second part: schedule, the compression function.
  Package digest, third part: the compression function, a method that writes its receiver.
  Package digest, fourth part: the blocks of the padded concatenation, handed out one by one.
-/
import Derived.Test.YtbbeldmcdjjnbaaDoorDRef
import Derived.Test.YtbbeldmcdjjnbaaDoorAbsMore
namespace Go.Proofs.YtbbeldmcdjjnbaaDoor
open Go Go.RowKit
set_option linter.unusedSimpArgs false
set_option linter.unusedVariables false
set_option maxRecDepth 100000
theorem and31b (k : Int) (h1 : -32 < k) (h2 : k < 0) : (BitVec.ofInt 64 k &&& BitVec.ofNat 64 31).toNat = (32 + k).toNat := by
  rw [BitVec.toNat_and, BitVec.toNat_ofInt, BitVec.toNat_ofNat]
  have e : (k % ((2 ^ 64 : Nat) : Int)).toNat = (18446744073709551616 + k).toNat := by
    congr 1
    omega
  rw [e]
  have : ∀ n : Nat, n &&& (31 % 2 ^ 64) = n % 32 := fun n => Nat.and_two_pow_sub_one_eq_mod n 5
  rw [this]
  omega
def cRot : Ctr := { args := [u32, i64], pre := fun x => [-32 < x.2.1, x.2.1 < 0], res := u32, own := none, out := fun x => rotr x.1 (-x.2.1).toNat }
theorem rot_ok : CtrOk Tryd.prog dG 71 cRot := by
  refine ctr_of_awp (K := dK) dK_ok Tryd.func71 rfl rfl Tryd.call71 rfl (by decide) (by intro h; cases h) ?_
  rintro w0 X hX ⟨(x : BitVec 32), (k : Int), _⟩ hp
  change AWP _ _ _ _ _ ⟨[(0, ⟨u32, x⟩), (1, ⟨i64, k⟩)], [], 0⟩ _
  obtain ⟨h1, h2⟩ : -32 < k ∧ k < 0 := hp
  (repeat (first | refine AWP.seq ?_ | refine AWP.skip ?_ | refine AWP.label ?_ | refine AWP.exit ?_ | refine AWP.block ?_ | refine AWP.region hX dK_ok rfl trivial ?_ | refine AWP.region hX dK_ok rfl id ?_ | refine AWP.region hX dK_ok rfl ⟨id, id⟩ ?_))
  (repeat (first | refine AWP.seq ?_ | refine AWP.skip ?_ | refine AWP.block ?_ | refine AWP.exit ?_)); refine AWP.region hX dK_ok rfl ?_ ?_
  · exact ⟨Int.natCast_nonneg _, Int.natCast_nonneg _⟩
  refine AWP.ret ⟨.inr rfl, done1 rfl trivial rfl rfl ?_⟩
  have ha := and31b k h1 h2
  show (x <<< (BitVec.ofInt 64 k &&& BitVec.ofNat 64 31).toNat) ||| (x >>> (BitVec.ofNat 64 32 - (BitVec.ofInt 64 k &&& BitVec.ofNat 64 31)).toNat) = rotr x (-k).toNat
  rw [BitVec.toNat_sub, ha]
  unfold rotr
  rw [BitVec.or_comm]
  congr 2
  · rw [BitVec.toNat_ofNat]; omega
  · omega
theorem test2 {p q : Prop} [Decidable p] [Decidable q] : (bif decide p then decide q else false) = true ↔ p ∧ q := by
  by_cases hp : p <;> simp [hp]
def valueR (c : UInt8) : UInt8 × Bool × Unit :=
  if 48 ≤ c.toNat ∧ c.toNat ≤ 57 then (c - 48, true, ())
  else if 97 ≤ c.toNat ∧ c.toNat ≤ 102 then (c - 97 + 10, true, ())
  else if 65 ≤ c.toNat ∧ c.toNat ≤ 70 then (c - 65 + 10, true, ())
  else (0, false, ())
def cValue : Ctr := { args := [u8], pre := fun _ => [], res := .tup u8 (.tup .bool .unit), own := none, out := fun x => valueR x.1 }
theorem dig_value (c : UInt8) : decide (0 ≤ dig c) = (valueR c).2.1 ∧ ((valueR c).2.1 = true → dig c = ((valueR c).1.toNat : Nat) ∧ (valueR c).1.toNat < 16) := by
  have hc := c.toNat_lt
  have sub (k : Nat) (h : k ≤ c.toNat) : (c - UInt8.ofNat k).toNat = c.toNat - k := by
    rw [UInt8.toNat_sub_of_le _ _ (by rw [UInt8.le_iff_toNat_le, UInt8.toNat_ofNat']; omega), UInt8.toNat_ofNat']
    omega
  have add10 (x : UInt8) (h : x.toNat < 6) : (x + 10).toNat = x.toNat + 10 := by
    rw [UInt8.toNat_add]
    show (x.toNat + 10) % 256 = _
    omega
  unfold dig cDigit valueR
  simp only
  split
  · rename_i h
    have e := sub 48 h.1
    refine ⟨by simp only [decide_eq_true_iff]; omega, fun _ => ?_⟩
    show _ = (((c - UInt8.ofNat 48).toNat : Nat) : Int) ∧ (c - UInt8.ofNat 48).toNat < 16
    omega
  · split
    · rename_i h
      have e := sub 97 h.1
      have e2 := add10 (c - UInt8.ofNat 97) (by omega)
      refine ⟨by simp only [decide_eq_true_iff]; omega, fun _ => ?_⟩
      show _ = (((c - UInt8.ofNat 97 + 10).toNat : Nat) : Int) ∧ (c - UInt8.ofNat 97 + 10).toNat < 16
      omega
    · split
      · rename_i h
        have e := sub 65 h.1
        have e2 := add10 (c - UInt8.ofNat 65) (by omega)
        refine ⟨by simp only [decide_eq_true_iff]; omega, fun _ => ?_⟩
        show _ = (((c - UInt8.ofNat 65 + 10).toNat : Nat) : Int) ∧ (c - UInt8.ofNat 65 + 10).toNat < 16
        omega
      · exact ⟨rfl, fun h => by cases h⟩
theorem byteAt_value (s : List UInt8) (i : Nat) (h0 : (valueR (s.getD (2 * i) 0)).2.1 = true) (h1 : (valueR (s.getD (2 * i + 1) 0)).2.1 = true) : UInt8.ofNat ((valueR (s.getD (2 * i) 0)).1.toNat <<< 4) ||| (valueR (s.getD (2 * i + 1) 0)).1 = byteAt s i := by
  obtain ⟨d0, l0⟩ := (dig_value _).2 h0
  obtain ⟨d1, l1⟩ := (dig_value _).2 h1
  unfold byteAt
  rw [d0, d1]
  generalize (valueR (s.getD (2 * i) 0)).1 = x at *
  generalize (valueR (s.getD (2 * i + 1) 0)).1 = y at *
  have hs : x.toNat <<< 4 = 16 * x.toNat := by rw [Nat.shiftLeft_eq]; omega
  have ho : x.toNat <<< 4 ||| y.toNat = 16 * x.toNat + y.toNat := by rw [← Nat.shiftLeft_add_eq_or_of_lt (show y.toNat < 2 ^ 4 by omega), hs]
  have hb : ((16 * (x.toNat : Int) + (y.toNat : Int)) % 256).toNat = 16 * x.toNat + y.toNat := by omega
  apply UInt8.toNat_inj.1
  rw [UInt8.toNat_or, UInt8.toNat_ofNat', UInt8.toNat_ofNat', Nat.mod_eq_of_lt (show x.toNat <<< 4 < 2 ^ 8 by omega), ho, hb, Nat.mod_eq_of_lt (by omega)]
def kA : Kn := { dK with C := [(71, cRot)] }
theorem kA_ok : KnOk Tryd.prog dG kA := dK_ok.with (CsOk.cons rot_ok CsOk.nil)
def cHex : Ctr := { args := [dg], pre := fun _ => [], res := .str, own := none, out := fun x => hex x.1 }
def cUnhex : Ctr := { args := [.str], pre := fun _ => [], res := .tup dg (.tup i64 .unit), own := none, out := fun x => unhexR x.1 }
end Go.Proofs.YtbbeldmcdjjnbaaDoor
namespace Go.Proofs.YtbbeldmcdjjnbaaDoor
open Go Go.RowKit
set_option linter.unusedSimpArgs false
set_option linter.unusedVariables false
set_option maxRecDepth 100000
theorem schedule_ok : CtrOk Tryd.prog dG 70 cExpand := by
  refine ctr_of_awp (K := kA) kA_ok Tryd.func70 rfl rfl Tryd.call70 rfl (by decide) (by intro h; cases h) ?_
  rintro w0 X hX ⟨(l : List UInt8), _⟩ hp
  change AWP _ _ _ _ _ ⟨[(0, ⟨bs, l⟩)], [], 0⟩ _
  have hp : l.length = 64 := hp
  (repeat (first | refine AWP.seq ?_ | refine AWP.skip ?_ | refine AWP.label ?_ | refine AWP.exit ?_ | refine AWP.block ?_ | refine AWP.region hX kA_ok rfl trivial ?_ | refine AWP.region hX kA_ok rfl id ?_ | refine AWP.region hX kA_ok rfl ⟨id, id⟩ ?_))
  refine AWP.loop (ι := Nat) (fun k => ⟨[(0, ⟨bs, l⟩), (2, ⟨.optr (.arr 64 u32), ⟨0, .arr 64 u32, .here⟩⟩), (3, ⟨.optr (.arr 64 u32), ⟨1, .arr 64 u32, .here⟩⟩), (9, ⟨i64, (k : Int)⟩)], [(0, some (.box (.arr 64 u32) (List.replicate 64 (0 : BitVec 32)))), (1, some (.box (.arr 64 u32) (schedL l k)))], 2⟩) (fun k => k ≤ 64) (fun k => 64 - k) 0 (by omega) ⟨⟨rfl, rfl, rfl, rfl, trivial⟩, ⟨rfl, rfl, trivial⟩, rfl, rfl⟩ ?_
  intro k hk
  (repeat (first | refine AWP.seq ?_ | refine AWP.skip ?_ | refine AWP.label ?_ | refine AWP.exit ?_ | refine AWP.block ?_ | refine AWP.region hX kA_ok rfl trivial ?_ | refine AWP.region hX kA_ok rfl id ?_ | refine AWP.region hX kA_ok rfl ⟨id, id⟩ ?_))
  refine AWP.cond rfl (fun hb => ?_) (fun hb => ?_)
  · simp at hb
    rename_i hb0
    (repeat (first | refine AWP.seq ?_ | refine AWP.skip ?_ | refine AWP.label ?_ | refine AWP.exit ?_ | refine AWP.block ?_ | refine AWP.region hX kA_ok rfl trivial ?_ | refine AWP.region hX kA_ok rfl id ?_ | refine AWP.region hX kA_ok rfl ⟨id, id⟩ ?_))
    refine AWP.cond rfl (fun hb => ?_) (fun hb => ?_)
    · simp at hb
      (repeat (first | refine AWP.seq ?_ | refine AWP.skip ?_ | refine AWP.block ?_ | refine AWP.exit ?_)); refine AWP.draw dM hX kA_ok 35 (by kernel_rfl) rfl rfl ?_ ?_ ?_
      · (simp only [allP, inR64]; (and_intros <;> first | omega | (simp; done) | (simp; omega)))
      · (simp only [allP, inR64]; (and_intros <;> first | omega | (simp; done) | (simp; omega)))
      (repeat (first | refine AWP.seq ?_ | refine AWP.skip ?_ | refine AWP.block ?_ | refine AWP.exit ?_)); refine AWP.region hX kA_ok rfl ?_ ?_
      · exact inR_succ (by omega)
      refine ⟨k + 1, by omega, by omega, ⟨rfl, rfl, rfl, vSucc _, trivial⟩, ⟨rfl, boxEq ?_, trivial⟩, rfl, rfl⟩
      rw [← schedL_set _ _ (by omega)]
      show List.set (schedL l k) (Int.toNat k) _ = _
      congr 1
      unfold schedNext
      rw [if_pos (by rw [sched_length]; omega), sched_length]
      rfl
    · simp at hb
      (repeat (first | refine AWP.seq ?_ | refine AWP.skip ?_ | refine AWP.block ?_ | refine AWP.exit ?_)); refine AWP.draw dM hX kA_ok 10 (by kernel_rfl) rfl rfl ?_ ?_ ?_
      · (simp only [allP, inR64]; (and_intros <;> first | omega | (simp; done) | (simp; omega)))
      · trivial
      (repeat (first | refine AWP.seq ?_ | refine AWP.skip ?_ | refine AWP.block ?_ | refine AWP.exit ?_)); refine AWP.region hX kA_ok rfl ?_ ?_
      · (simp only [allP, inR64]; (and_intros <;> first | omega | (simp; done) | (simp; omega)))
      (repeat (first | refine AWP.seq ?_ | refine AWP.skip ?_ | refine AWP.block ?_ | refine AWP.exit ?_)); refine AWP.region hX kA_ok rfl ?_ ?_
      · (simp only [allP, inR64]; (and_intros <;> first | omega | (simp; done) | (simp; omega)))
      (repeat (first | refine AWP.seq ?_ | refine AWP.skip ?_ | refine AWP.block ?_ | refine AWP.exit ?_)); refine AWP.draw dM hX kA_ok 15 (by kernel_rfl) rfl rfl ?_ ?_ ?_
      · (simp only [allP, inR64]; (and_intros <;> first | omega | (simp; done) | (simp; omega)))
      · (simp only [allP, inR64]; (and_intros <;> first | omega | (simp; done) | (simp; omega)))
      (repeat (first | refine AWP.seq ?_ | refine AWP.skip ?_ | refine AWP.block ?_ | refine AWP.exit ?_)); refine AWP.region hX kA_ok rfl ?_ ?_
      · exact inR_succ (by omega)
      refine ⟨k + 1, by omega, by omega, ⟨rfl, rfl, rfl, vSucc _, trivial⟩, ⟨rfl, boxEq ?_, trivial⟩, rfl, rfl⟩
      rw [← schedL_set _ _ (by omega)]
      show List.set (schedL l k) (Int.toNat k) _ = _
      congr 1
      unfold schedNext
      rw [if_neg (by rw [sched_length]; omega), sched_length]
      have e16 : ((k : Int) - 16).toNat = k - 16 := by omega
      have e15 : ((k : Int) - 15).toNat = k - 15 := by omega
      have e7 : ((k : Int) - 7).toNat = k - 7 := by omega
      have e2 : ((k : Int) - 2).toNat = k - 2 := by omega
      simp only [e16, e15, e7, e2, schedL_get l k (k - 16) (by omega), schedL_get l k (k - 15) (by omega), schedL_get l k (k - 7) (by omega), schedL_get l k (k - 2) (by omega)]
      rfl
  · simp at hb
    have : k = 64 := by omega
    subst this
    (repeat (first | refine AWP.seq ?_ | refine AWP.skip ?_ | refine AWP.label ?_ | refine AWP.exit ?_ | refine AWP.block ?_ | refine AWP.region hX kA_ok rfl trivial ?_ | refine AWP.region hX kA_ok rfl id ?_ | refine AWP.region hX kA_ok rfl ⟨id, id⟩ ?_))
    refine AWP.ret ⟨.inr rfl, done1 rfl trivial rfl rfl ?_⟩
    show schedL l 64 = sched l 64
    simp [schedL]
end Go.Proofs.YtbbeldmcdjjnbaaDoor
namespace Go.Proofs.YtbbeldmcdjjnbaaDoor
open Go Go.RowKit
set_option linter.unusedSimpArgs false
set_option linter.unusedVariables false
set_option maxRecDepth 100000
def kB : Kn := { dK with C := [(70, cExpand), (71, cRot)] }
theorem kB_ok : KnOk Tryd.prog dG kB := dK_ok.with (CsOk.cons schedule_ok (CsOk.cons rot_ok CsOk.nil))
def cAdd : RCtr := { self := arr8, args := [bs], inv := fun _ g => g ≠ 0, pre := fun _ xs => [List.length xs.1 = 64], res := .unit, out := fun _ _ => (), post := fun s xs => stWords (compress (stOf s) xs.1) }
theorem add_ok : RCtrOk Tryd.prog dG 59 cAdd := by
  refine rctr_of_awp (K := kB) kB_ok Tryd.func59 rfl rfl Tryd.call59 rfl (by decide) (fun w w' g hg h hk => dG_kept (fun e => hg e.symm) h hk) ?_
  rintro w0 O g hX hinv (s : List (BitVec 32)) ⟨(l : List UInt8), _⟩ hp
  have hG : dG w0 := hX.2.2 w0 (Kept.refl _ _)
  change AWP _ _ _ _ _ ⟨[(0, ⟨.optr arr8, ⟨0, arr8, .here⟩⟩), (1, ⟨bs, l⟩)], [(0, some (.box arr8 s))], 1⟩ _
  have hp : l.length = 64 := hp
  refine AWP.blen 0 rfl fun hs => ?_
  have hsw : s = stWords (stOf s) := by
    match s, hs with
    | [_, _, _, _, _, _, _, _], _ => rfl
  obtain ⟨hGl, cs, hG1, hG2⟩ := hG
  (repeat (first | refine AWP.seq ?_ | refine AWP.skip ?_ | refine AWP.block ?_ | refine AWP.exit ?_)); refine AWP.drawN dM hX kB_ok 9 (by kernel_rfl) rfl rfl ?_ ?_ ?_
  · exact hp
  · trivial
  (repeat (first | refine AWP.seq ?_ | refine AWP.skip ?_ | refine AWP.block ?_ | refine AWP.exit ?_))
  refine AWP.loadG hX kB_ok cs rfl rfl rfl rfl rfl rfl rfl hG1 hG2 hGl (fun h => h.elim (fun ⟨_, _, e⟩ => hinv e) id) rfl trivial ?_
  (repeat (first | refine AWP.seq ?_ | refine AWP.skip ?_ | refine AWP.block ?_ | refine AWP.exit ?_))
  refine AWP.loop (ι := Nat) (fun k => ⟨[(0, ⟨.optr arr8, ⟨0, arr8, .here⟩⟩), (4, ⟨.optr arr64, ⟨1, arr64, .here⟩⟩), (5, ⟨.optr arr8, ⟨2, arr8, .here⟩⟩), (16, ⟨arr64, roundK⟩), (17, ⟨i64, (k : Int)⟩)],
    [(0, some (.box arr8 s)), (1, some (.box arr64 (sched l 64))), (2, some (.box arr8 (stWords (rounds (stOf s) (sched l 64) k))))], 3⟩) (fun k => k ≤ 64) (fun k => 64 - k) 0 (by omega) ⟨⟨rfl, rfl, rfl, rfl, rfl, trivial⟩, ⟨rfl, rfl, boxEq hsw, trivial⟩, rfl, rfl⟩ ?_
  intro k hk
  (repeat (first | refine AWP.seq ?_ | refine AWP.skip ?_ | refine AWP.label ?_ | refine AWP.exit ?_ | refine AWP.block ?_ | refine AWP.region hX kB_ok rfl trivial ?_ | refine AWP.region hX kB_ok rfl id ?_ | refine AWP.region hX kB_ok rfl ⟨id, id⟩ ?_))
  refine AWP.cond rfl (fun hb => ?_) (fun hb => ?_)
  · simp at hb
    have hnext : stWords (rounds (stOf s) (sched l 64) (k + 1)) = stWords (round (rounds (stOf s) (sched l 64) k) (roundK.getD k 0) ((sched l 64).getD k 0)) := rfl
    generalize rounds (stOf s) (sched l 64) k = t at *
    generalize sched l 64 = ws at *
    have hrk : roundK.length = 64 := rfl
    generalize roundK = rk at *
    (repeat (first | refine AWP.seq ?_ | refine AWP.skip ?_ | refine AWP.block ?_ | refine AWP.exit ?_)); refine AWP.region hX kB_ok rfl ?_ ?_
    · (simp only [allP, inR64]; (and_intros <;> first | omega | (simp; done) | (simp; omega)))
    (repeat (first | refine AWP.seq ?_ | refine AWP.skip ?_ | refine AWP.block ?_ | refine AWP.exit ?_)); refine AWP.draw dM hX kB_ok 34 (by kernel_rfl) rfl rfl ?_ ?_ ?_
    · (simp only [allP, inR64]; (and_intros <;> first | omega | (simp; done) | (simp; omega)))
    · trivial
    (repeat (first | refine AWP.seq ?_ | refine AWP.skip ?_ | refine AWP.block ?_ | refine AWP.exit ?_)); refine AWP.draw dM hX kB_ok 30 (by kernel_rfl) rfl rfl ?_ ?_ ?_
    · (simp only [allP, inR64]; (and_intros <;> first | omega | (simp; done) | (simp; omega)))
    · trivial
    (repeat (first | refine AWP.seq ?_ | refine AWP.skip ?_ | refine AWP.block ?_ | refine AWP.exit ?_)); refine AWP.region hX kB_ok rfl ?_ ?_
    · (simp only [allP, inR64]; (and_intros <;> first | omega | (simp; done) | (simp; omega)))
    (repeat (first | refine AWP.seq ?_ | refine AWP.skip ?_ | refine AWP.block ?_ | refine AWP.exit ?_)); refine AWP.region hX kB_ok rfl ?_ ?_
    · exact inR_succ (by omega)
    refine ⟨k + 1, by omega, by omega, ⟨rfl, rfl, rfl, rfl, vSucc _, trivial⟩, ⟨rfl, rfl, boxEq ?_, trivial⟩, rfl, rfl⟩
    rw [hnext]
    obtain ⟨a, b, c, d, e, f, g, h⟩ := t
    simp only [round, roundX, roundY]
    rfl
  · simp at hb
    have : k = 64 := by omega
    subst this
    have hfin : compress (stOf s) l = addSt (stOf s) (rounds (stOf s) (sched l 64) 64) := rfl
    generalize rounds (stOf s) (sched l 64) 64 = t at *
    generalize sched l 64 = ws at *
    (repeat (first | refine AWP.seq ?_ | refine AWP.skip ?_ | refine AWP.label ?_ | refine AWP.exit ?_ | refine AWP.block ?_ | refine AWP.region hX kB_ok rfl trivial ?_ | refine AWP.region hX kB_ok rfl id ?_ | refine AWP.region hX kB_ok rfl ⟨id, id⟩ ?_))
    refine AWP.loop (ι := Nat) (fun k => ⟨[(0, ⟨.optr arr8, ⟨0, arr8, .here⟩⟩), (5, ⟨.optr arr8, ⟨2, arr8, .here⟩⟩), (104, ⟨i64, (k : Int)⟩)],
      [(0, some (.box arr8 (mixL (stWords t) s k))), (2, some (.box arr8 (stWords t)))], 3⟩) (fun k => k ≤ 8) (fun k => 8 - k) 0 (by omega) ⟨⟨rfl, rfl, rfl, trivial⟩, ⟨boxEq ?_, rfl, trivial⟩, rfl, rfl⟩ ?_
    · match s, hs with
      | [_, _, _, _, _, _, _, _], _ => rfl
    intro k hk
    (repeat (first | refine AWP.seq ?_ | refine AWP.skip ?_ | refine AWP.label ?_ | refine AWP.exit ?_ | refine AWP.block ?_ | refine AWP.region hX kB_ok rfl trivial ?_ | refine AWP.region hX kB_ok rfl id ?_ | refine AWP.region hX kB_ok rfl ⟨id, id⟩ ?_))
    refine AWP.cond rfl (fun hb => ?_) (fun hb => ?_)
    · simp at hb
      (repeat (first | refine AWP.seq ?_ | refine AWP.skip ?_ | refine AWP.label ?_ | refine AWP.exit ?_ | refine AWP.block ?_ | refine AWP.region hX kB_ok rfl trivial ?_ | refine AWP.region hX kB_ok rfl id ?_ | refine AWP.region hX kB_ok rfl ⟨id, id⟩ ?_))
      (repeat (first | refine AWP.seq ?_ | refine AWP.skip ?_ | refine AWP.block ?_ | refine AWP.exit ?_)); refine AWP.draw dM hX kB_ok 11 (by kernel_rfl) rfl rfl ?_ ?_ ?_
      · (simp only [allP, inR64]; (and_intros <;> first | omega | (simp; done) | (simp; omega)))
      · (simp only [allP, inR64]; (and_intros <;> first | omega | (simp; done) | (simp; omega)))
      (repeat (first | refine AWP.seq ?_ | refine AWP.skip ?_ | refine AWP.block ?_ | refine AWP.exit ?_)); refine AWP.region hX kB_ok rfl ?_ ?_
      · exact inR_succ (by omega)
      refine ⟨k + 1, by omega, by omega, ⟨rfl, rfl, vSucc _, trivial⟩, ⟨boxEq ?_, rfl, trivial⟩, rfl, rfl⟩
      exact mixL_set (stWords t) s k (by omega)
    · simp at hb
      have : k = 8 := by omega
      subst this
      (repeat (first | refine AWP.seq ?_ | refine AWP.skip ?_ | refine AWP.label ?_ | refine AWP.exit ?_ | refine AWP.block ?_ | refine AWP.region hX kB_ok rfl trivial ?_ | refine AWP.region hX kB_ok rfl id ?_ | refine AWP.region hX kB_ok rfl ⟨id, id⟩ ?_))
      refine ⟨.inl rfl, boxEq ?_, by decide, rfl, [], rfl, trivial⟩
      show mixL (stWords t) s 8 = stWords (compress (stOf s) l)
      rw [hfin]
      match s, hs with
      | [a, b, c, d, e, f, g, h], _ =>
        simp only [mixL, stWords, addSt, stOf, List.range, List.range.loop, List.map, List.getD]
        simp
end Go.Proofs.YtbbeldmcdjjnbaaDoor
namespace Go.Proofs.YtbbeldmcdjjnbaaDoor
open Go Go.RowKit
set_option linter.unusedSimpArgs false
set_option linter.unusedVariables false
set_option maxRecDepth 100000
/-- the j-th block of a message -/
def blk (m : List UInt8) (j : Nat) : List UInt8 := (m.drop (64 * j)).take 64
def blksOf (m : List UInt8) : List (List UInt8) := (List.range (m.length / 64)).map (blk m)
theorem blocks_call (A : Option Addr) (n c : Nat) (w : World) : Calls Tryd.prog 58 #[.slice A n c] w fun e w' => e = .returned (.func (.func 69) #[] #[.pointer (some ⟨w.heap.size, 0, none⟩)]) ∧ w' = w.alloc (.cells #[.slice A n c] 125) := by
  go_enter Tryd.func58, Tryd.ntmps58
  go_wp2
  go_ret
  exact ⟨rfl, rfl⟩
theorem yK_ok : KnOk Tryd.prog (fun _ => True) dK := ⟨dT_ok, dU_ok, CsOk.nil, fun _ _ _ _ => trivial, RsOk.nil⟩
theorem flatten_take_succ (ps : List (List UInt8)) (k : Nat) (h : k < ps.length) : (ps.take (k + 1)).flatten = (ps.take k).flatten ++ ps.getD k [] := by
  rw [List.take_succ_eq_append_getElem h, List.flatten_append]
  simp [List.getD, h]
theorem flatten_take_le (ps : List (List UInt8)) (k : Nat) : (ps.take k).flatten.length ≤ ps.flatten.length := by
  rw [← List.take_append_drop k ps, List.flatten_append]
  simp
theorem flatten_getD_le (ps : List (List UInt8)) (k : Nat) (h : k < ps.length) : (ps.take k).flatten.length + (ps.getD k []).length ≤ ps.flatten.length := by
  have := flatten_take_le ps (k + 1)
  rw [flatten_take_succ _ _ h] at this
  simpa using this
abbrev yLit (l : Nat) : V := ⟨.lit, .func (.yield l) #[] #[]⟩
def lastOf : Code → Code
  | .seq _ y => lastOf y
  | c => c
theorem blk_some {p : List UInt8} {k : Nat} (hp : p.length % 64 = 0) (hk : 64 * k < p.length) : (blksOf p)[k]? = some ((p.drop (64 * k)).take 64) := by
  unfold blksOf
  rw [List.getElem?_map, List.getElem?_range (by omega)]
  rfl
theorem blocks1_loop (l : Nat) (J : Nat → World → Prop) (W : World) (p : List UInt8) (hp : p.length % 64 = 0) (hp2 : p.length ≤ 2000200)
    (hJ : ∀ k A C, J k A → Below W.heap.size A C → J k C)
    (hY : ∀ k x y W1, J k W1 → (blksOf p)[k]? = some y → W.heap.size ≤ W1.heap.size → RepD W1 (fun g => g < W.heap.size) bs y x → YieldAt Fence.wide 0 Tryd.prog l #[x] W1 fun e W' => e = .returned (.bool true) ∧ J (k + 1) W' ∧ KeptFrom W.heap.size W1 W')
    {β : Nat → Value} {a : Act} {w1 : World} (h1 : Sim w1 (Ownr.plain (fun _ => True) (fun h => h < W.heap.size)) 53 ⟨[(0, yLit l), (3, ⟨bs, p⟩)], [], 0⟩ β a w1) (hs1 : W.heap.size ≤ w1.heap.size) (hj1 : J 0 w1) :
    (lastOf (Tryd.f69.body.getD .skip)).wpIn Fence.wide 0 Tryd.prog (fun e a w => e = .normal ∧ a.defers = [] ∧ J (blksOf p).length w) a w1 := by
  let X := Ownr.plain (fun _ => True) (fun h => h < W.heap.size)
  have hX : ∀ w : World, W.heap.size ≤ w.heap.size → X.Ok w := fun w hw => ⟨fun g h => ⟨Nat.lt_of_lt_of_le h hw, Ownr.plain_noR _ _ g⟩, fun g h => (Ownr.plain_noR _ _ g h).elim, fun _ _ => trivial⟩
  have hXR : ∀ g, ¬ X.R g := Ownr.plain_noR _ _
  refine wpIn_block ?_
  refine wpIn_family (fun k a w => (∃ β, Sim w X 53 ⟨[(0, yLit l), (3, ⟨bs, p.drop (64 * k)⟩)], [], 0⟩ β a w) ∧ 64 * k ≤ p.length ∧ W.heap.size ≤ w.heap.size ∧ J k w) (fun k => p.length - 64 * k) 0 ⟨⟨β, h1⟩, by omega, hs1, hj1⟩ ?_
  rintro k a w ⟨⟨β, h⟩, hk, hs, hj⟩
  refine wpIn_seq (Go.wpIn_mono ((show AWP Tryd.prog w X 53 _ _ (fun e σ => ((e = .exit 6 ∧ ¬ 64 * k < p.length) ∨ (e = .normal ∧ 64 * k < p.length)) ∧ Sub σ.F [(0, yLit l), (3, ⟨bs, p.drop (64 * k)⟩)] ∧ σ.E = []) from ?_) β a w h) ?_)
  · have hX := hX w hs
    (repeat (first | refine AWP.seq ?_ | refine AWP.skip ?_ | refine AWP.label ?_ | refine AWP.exit ?_ | refine AWP.block ?_ | refine AWP.region hX yK_ok rfl trivial ?_ | refine AWP.region hX yK_ok rfl id ?_ | refine AWP.region hX yK_ok rfl ⟨id, id⟩ ?_))
    refine AWP.cond rfl (fun hb => ?_) (fun hb => ?_)
    · have hb : decide (((p.drop (64 * k)).length : Int) > 0) = true := hb
      simp at hb
      exact AWP.skip ⟨.inr ⟨rfl, by omega⟩, ⟨rfl, rfl, trivial⟩, rfl⟩
    · have hb : decide (((p.drop (64 * k)).length : Int) > 0) = false := hb
      simp at hb
      exact AWP.exit ⟨.inl ⟨rfl, by omega⟩, ⟨rfl, rfl, trivial⟩, rfl⟩
  rintro e a2 w2 ⟨σ2, β2, h2, he, hF, hE⟩
  have hb2 : Below w.heap.size w w2 := h2.bel.below hXR
  have hj2 : J k w2 := hJ k _ _ hj (hb2.mono hs)
  have hs2 : W.heap.size ≤ w2.heap.size := Nat.le_trans hs hb2.size
  rcases he with ⟨rfl, hge⟩ | ⟨rfl, hlt⟩
  · have : k = p.length / 64 := by omega
    simp only [Exit.then, Exit.inBlock, if_true]
    refine ⟨trivial, h2.df, ?_⟩
    have hl : (blksOf p).length = k := by simp [blksOf, this]
    rw [hl]
    exact hj2
  have h3 := h2.rebase hE rfl hF rfl
  refine wpIn_seq ?_
  refine Go.wpIn_mono (Q := fun e a w => e = .normal ∧ (∃ β, Sim w X 53 ⟨[(0, yLit l), (3, ⟨bs, p.drop (64 * k)⟩)], [], 0⟩ β a w) ∧ W.heap.size ≤ w.heap.size ∧ J (k + 1) w) ?_ ?_
  · refine wpIn_block ?_
    refine wpIn_seq ?_
    refine Go.wpIn_mono (Q := fun e a w => e = .normal ∧ (∃ β, Sim w X 53 ⟨[(52, ⟨.bool, false⟩), (0, yLit l), (3, ⟨bs, p.drop (64 * k)⟩)], [], 0⟩ β a w) ∧ W.heap.size ≤ w.heap.size ∧ J (k + 1) w) ?_ ?_
    · refine wpIn_region_list ?_
      rw [← List.take_append_drop 3 (Array.toList _)]
      refine wpListIn_append _ _ (wpListIn_of_wpList (ρ := none) not_lets _ rfl (aSeq_wp (K := dK) yK_ok (hX w2 hs2) _ h3 rfl ?_ fun β4 a4 w4 h4 => ⟨rfl, ?_⟩))
      · refine ⟨by omega, ?_⟩
        show (64 : Int) ≤ ((p.drop (64 * k)).length : Int)
        simp; omega
      have hb4 : Below w2.heap.size w2 w4 := h4.bel.below hXR
      have hs4 : W.heap.size ≤ w4.heap.size := Nat.le_trans hs2 hb4.size
      refine wpListIn_plain rfl fun K hK => ?_
      have hr := h4.ops (.tmp 50)
      rw [show OSet X _ β4 = _ from OSet.nil] at hr
      have hy := hY k _ ((p.drop (64 * k)).take 64) w4 (hJ k _ _ hj2 (hb4.mono hs2)) (blk_some hp hlt) hs4 hr
      rw [show (#[a4.eval (.tmp 50)] : Array Value) = #[Operand.tmp 50].map a4.eval from by simp] at hy
      refine wpIn_yield rfl (h4.ops (.tmp 48)) (YieldAt.any hy) ?_
      rintro e w5 ⟨rfl, hj5, hk5⟩
      refine ⟨_, rfl, hK _ _ ?_⟩
      have h5 := Sim.round (B := W.heap.size) (F' := [(0, yLit l), (3, ⟨bs, p.drop (64 * k)⟩)]) h4 rfl (fun g hg => hg) rfl hk5 ⟨rfl, rfl, trivial⟩ rfl
      have h6 := h5.put (Below.refl _ _) (v := ⟨.bool, true⟩) (u := .bool true) RepV.ofBool (Nat.zero_le _) (d := 51) (by omega)
      have hs5 : W.heap.size ≤ w5.heap.size := Nat.le_trans hs4 hk5.size
      refine wpListIn_of_wpList (ρ := none) not_lets _ rfl (aSeq_wp (K := dK) yK_ok (hX w5 hs5) _ h6 rfl trivial fun β7 a7 w7 h7 => ⟨rfl, ?_⟩)
      have hb7 : Below w5.heap.size w5 w7 := h7.bel.below hXR
      exact ⟨⟨β7, h7.rebase rfl rfl ⟨rfl, rfl, rfl, trivial⟩ rfl⟩, Nat.le_trans hs5 hb7.size, hJ _ _ _ hj5 (hb7.mono hs5)⟩
    · rintro e a8 w8 ⟨rfl, ⟨β8, h8⟩, hs8, hj8⟩
      refine Go.wpIn_mono ((show AWP Tryd.prog w8 X 53 _ _ (fun e σ => e = .normal ∧ Sub σ.F [(0, yLit l), (3, ⟨bs, p.drop (64 * k)⟩)] ∧ σ.E = []) from ?_) β8 a8 w8 h8) ?_
      · refine AWP.cond rfl (fun hb => by cases hb) (fun _ => AWP.skip ⟨rfl, ⟨rfl, rfl, trivial⟩, rfl⟩)
      · rintro e a9 w9 ⟨σ9, β9, h9, rfl, hF9, hE9⟩
        have hb9 : Below w8.heap.size w8 w9 := h9.bel.below hXR
        exact ⟨rfl, ⟨β9, h9.rebase hE9 rfl hF9 rfl⟩, Nat.le_trans hs8 hb9.size, hJ _ _ _ hj8 (hb9.mono hs8)⟩
  · rintro e a8 w8 ⟨rfl, ⟨β8, h8⟩, hs8, hj8⟩
    refine Go.wpIn_mono ((show AWP Tryd.prog w8 X 53 _ _ (fun e σ => e = .normal ∧ Sub σ.F [(0, yLit l), (3, ⟨bs, p.drop (64 * (k + 1))⟩)] ∧ σ.E = []) from ?_) β8 a8 w8 h8) ?_
    · have hX := hX w8 hs8
      (repeat (first | refine AWP.seq ?_ | refine AWP.skip ?_ | refine AWP.block ?_ | refine AWP.exit ?_)); refine AWP.region hX yK_ok rfl ?_ ?_
      · refine ⟨by omega, ?_⟩
        show (64 : Int) ≤ ((p.drop (64 * k)).length : Int)
        simp; omega
      refine ⟨rfl, ⟨rfl, V.congr ?_, trivial⟩, rfl⟩
      show (p.drop (64 * k)).drop 64 = p.drop (64 * (k + 1))
      rw [List.drop_drop]
      congr 1
    · rintro e a9 w9 ⟨σ9, β9, h9, rfl, hF9, hE9⟩
      have hb9 : Below w8.heap.size w8 w9 := h9.bel.below hXR
      exact ⟨k + 1, by omega, ⟨β9, h9.rebase hE9 rfl hF9 rfl⟩, by omega, Nat.le_trans hs8 hb9.size, hJ _ _ _ hj8 (hb9.mono hs8)⟩
set_option maxHeartbeats 400000 in
theorem blocks1_seq (g : Nat) (parts : List (List UInt8)) (v : Value) (w : World) (m : Nat) (hg : w.heap[g]? = some (.cells #[v] 125 (0, 0))) (hv : RepD w (fun _ => False) (.slice bs) parts v) (hlen : parts.flatten.length ≤ 2000000) :
    SeqBlk Tryd.prog m 69 #[.pointer (some ⟨g, 0, none⟩)] bs (blksOf (pad parts.flatten)) w := by
  intro l J W hW hJ hY h0
  refine callsIn_of_wp Tryd.func69 rfl trivial ?_ rfl
  have hgl : g < w.heap.size := (Array.getElem?_eq_some_iff.1 hg).1
  have hgW : W.heap[g]? = some (.cells #[v] 125 (0, 0)) := (hW.block g hgl).trans hg
  have hvW : RepD W (fun _ => False) (.slice bs) parts v := hv.keep (.of_below hW fun _ _ h => h)
  let X := Ownr.plain (fun _ => True) (fun _ => False)
  have hX : X.Ok W := ⟨fun g h => False.elim h, fun g h => (Ownr.plain_noR _ _ g h).elim, fun _ _ => trivial⟩
  have hsim : Sim W X 53 ⟨[(0, yLit l), (1, ⟨.vptr (.slice bs), parts⟩)], [], 0⟩ (fun _ => undef)
      { tmps := (#[.func (.yield l) #[] #[]] ++ #[.pointer (some ⟨g, 0, none⟩)]) ++ Array.replicate (Tryd.f69.ntmps - (#[.func (.yield l) #[] #[]] ++ #[.pointer (some ⟨g, 0, none⟩)] : Array Value).size) undef, defers := [] } W := by
    refine Sim.fresh rfl (by simp [Tryd.ntmps69]) rfl (rep_cons (by rw [getD_app (by simp)]; rfl) (rep_cons ⟨g, 0, [v], by rw [getD_app (by simp)]; rfl, Nat.lt_of_lt_of_le hgl hW.size, fun h => h, (RepD.scalar rfl).1 hvW, ?_⟩ rep_nil)) rfl
    intro j u hu
    match j, hu with
    | 0, hu =>
      cases hu
      unfold World.cell?
      rw [hgW]
      rfl
    | j + 1, hu => simp at hu
  suffices h : RWP Tryd.prog W X 53 (Tryd.f69.body.getD .skip) ⟨[(0, yLit l), (1, ⟨.vptr (.slice bs), parts⟩)], [], 0⟩ (bodyPost Tryd.prog Tryd.f69 fun e W' => (∃ v, e = .returned v) ∧ J (blksOf (pad parts.flatten)).length W') from
    (wpIn_wide (n := m)).2 ((wpIn_wide (n := 0)).1 (h _ _ _ hsim))
  refine RWP.seq ?_
  (repeat (first | refine AWP.seq ?_ | refine AWP.skip ?_ | refine AWP.block ?_ | refine AWP.exit ?_)); refine AWP.region hX yK_ok rfl ?_ ?_
  · trivial
  refine RWP.seq ?_
  refine AWP.nilBuf hX 3 5 u8 rfl rfl rfl ?_
  (repeat (first | refine AWP.seq ?_ | refine AWP.skip ?_ | refine AWP.label ?_ | refine AWP.exit ?_ | refine AWP.block ?_ | refine AWP.region hX yK_ok rfl trivial ?_ | refine AWP.region hX yK_ok rfl id ?_ | refine AWP.region hX yK_ok rfl ⟨id, id⟩ ?_))
  refine AWP.loop (ι := Nat) (fun k => ⟨[(0, yLit l), (3, ⟨.obuf u8, (0 : Nat)⟩), (8, ⟨.slice bs, parts⟩), (9, ⟨i64, (parts.length : Int)⟩), (10, ⟨i64, (k : Int)⟩)], [(0, some (.buf 5 u8 (parts.take k).flatten))], 1⟩) (fun k => k ≤ parts.length) (fun k => parts.length - k) 0 (by omega) ⟨⟨rfl, rfl, rfl, rfl, rfl, trivial⟩, ⟨rfl, trivial⟩, rfl, rfl⟩ ?_
  intro k hk
  (repeat (first | refine AWP.seq ?_ | refine AWP.skip ?_ | refine AWP.label ?_ | refine AWP.exit ?_ | refine AWP.block ?_ | refine AWP.region hX yK_ok rfl trivial ?_ | refine AWP.region hX yK_ok rfl id ?_ | refine AWP.region hX yK_ok rfl ⟨id, id⟩ ?_))
  refine AWP.len 8 rfl fun hml => ?_
  unfold maxLen at hml
  refine AWP.cond rfl (fun hb => ?_) (fun hb => ?_)
  · simp at hb
    (repeat (first | refine AWP.seq ?_ | refine AWP.skip ?_ | refine AWP.block ?_ | refine AWP.exit ?_)); refine AWP.region hX yK_ok rfl ?_ ?_
    · (simp only [allP, inR64]; (and_intros <;> first | omega | (simp; done) | (simp; omega)))
    (repeat (first | refine AWP.seq ?_ | refine AWP.skip ?_ | refine AWP.block ?_ | refine AWP.exit ?_)); refine AWP.region hX yK_ok rfl ?_ ?_
    · have := flatten_getD_le parts k hb
      show List.length (parts.take k).flatten + List.length (parts.getD (k : Int).toNat []) ≤ 1000000000
      simp only [Int.toNat_natCast]
      omega
    (repeat (first | refine AWP.seq ?_ | refine AWP.skip ?_ | refine AWP.block ?_ | refine AWP.exit ?_)); refine AWP.region hX yK_ok rfl ?_ ?_
    · exact inR_succ (by omega)
    refine ⟨k + 1, by omega, by omega, ⟨rfl, rfl, rfl, rfl, vSucc _, trivial⟩, ⟨bufEq ?_, trivial⟩, rfl, rfl⟩
    rw [flatten_take_succ _ _ hb]
    rfl
  simp at hb
  have : k = parts.length := by omega
  subst this
  rw [List.take_length]
  generalize parts.flatten = msg at *
  (repeat (first | refine AWP.seq ?_ | refine AWP.skip ?_ | refine AWP.label ?_ | refine AWP.exit ?_ | refine AWP.block ?_ | refine AWP.region hX yK_ok rfl trivial ?_ | refine AWP.region hX yK_ok rfl id ?_ | refine AWP.region hX yK_ok rfl ⟨id, id⟩ ?_))
  refine RWP.seq ?_
  (repeat (first | refine AWP.seq ?_ | refine AWP.skip ?_ | refine AWP.block ?_ | refine AWP.exit ?_)); refine AWP.region hX yK_ok rfl ?_ ?_
  · trivial
  refine RWP.seq ?_
  (repeat (first | refine AWP.seq ?_ | refine AWP.skip ?_ | refine AWP.block ?_ | refine AWP.exit ?_)); refine AWP.region hX yK_ok rfl ?_ ?_
  · show List.length msg + List.length [(128 : UInt8)] ≤ 1000000000
    simp; omega
  have hz : zerosFor msg.length < 64 := by unfold zerosFor; omega
  refine RWP.seq ?_
  (repeat (first | refine AWP.seq ?_ | refine AWP.skip ?_ | refine AWP.label ?_ | refine AWP.exit ?_ | refine AWP.block ?_ | refine AWP.region hX yK_ok rfl trivial ?_ | refine AWP.region hX yK_ok rfl id ?_ | refine AWP.region hX yK_ok rfl ⟨id, id⟩ ?_))
  refine AWP.loop (ι := Nat) (fun k => ⟨[(0, yLit l), (3, ⟨.obuf u8, (0 : Nat)⟩), (6, ⟨.int .u64, BitVec.ofNat 64 8 * BitVec.ofInt 64 (msg.length : Int)⟩)], [(0, some (.buf 5 u8 (msg ++ [0x80] ++ List.replicate k 0)))], 5⟩) (fun k => k ≤ zerosFor msg.length) (fun k => zerosFor msg.length - k) 0 (by omega) ⟨⟨rfl, rfl, rfl, trivial⟩, ⟨bufEq (by simp), trivial⟩, rfl, rfl⟩ ?_
  intro k hk
  (repeat (first | refine AWP.seq ?_ | refine AWP.skip ?_ | refine AWP.block ?_ | refine AWP.exit ?_)); refine AWP.region hX yK_ok rfl ?_ ?_
  · (simp only [allP, inR64]; (and_intros <;> first | omega | (simp; done) | (simp; omega)))
  have hlen2 : (msg ++ [0x80] ++ List.replicate k 0).length = msg.length + 1 + k := by simp; omega
  refine AWP.cond rfl (fun hb => ?_) (fun hb => ?_)
  · have hb : (((msg ++ [0x80] ++ List.replicate k 0).length : Int).tmod 64 != 56) = true := hb
    rw [tmod64, hlen2] at hb
    simp at hb
    have hlt : k < zerosFor msg.length := by
      rcases Nat.lt_or_ge k (zerosFor msg.length) with h | h
      · exact h
      · exfalso; apply hb; have : k = zerosFor msg.length := by omega
        rw [this]; unfold zerosFor; omega
    (repeat (first | refine AWP.seq ?_ | refine AWP.skip ?_ | refine AWP.block ?_ | refine AWP.exit ?_)); refine AWP.region hX yK_ok rfl ?_ ?_
    · show List.length (msg ++ [0x80] ++ List.replicate k 0) + List.length [(0 : UInt8)] ≤ 1000000000
      rw [hlen2]; simp; omega
    refine ⟨k + 1, by omega, by omega, ⟨rfl, rfl, rfl, trivial⟩, ⟨bufEq ?_, trivial⟩, rfl, rfl⟩
    show msg ++ [0x80] ++ List.replicate k 0 ++ [0] = _
    rw [List.replicate_succ', List.append_assoc]
  have hb : (((msg ++ [0x80] ++ List.replicate k 0).length : Int).tmod 64 != 56) = false := hb
  rw [tmod64, hlen2] at hb
  simp at hb
  have : k = zerosFor msg.length := by unfold zerosFor at *; omega
  subst this
  (repeat (first | refine AWP.seq ?_ | refine AWP.skip ?_ | refine AWP.label ?_ | refine AWP.exit ?_ | refine AWP.block ?_ | refine AWP.region hX yK_ok rfl trivial ?_ | refine AWP.region hX yK_ok rfl id ?_ | refine AWP.region hX yK_ok rfl ⟨id, id⟩ ?_))
  refine RWP.seq ?_
  (repeat (first | refine AWP.seq ?_ | refine AWP.skip ?_ | refine AWP.label ?_ | refine AWP.exit ?_ | refine AWP.block ?_ | refine AWP.region hX yK_ok rfl trivial ?_ | refine AWP.region hX yK_ok rfl id ?_ | refine AWP.region hX yK_ok rfl ⟨id, id⟩ ?_))
  refine AWP.loop (ι := Nat) (fun j => ⟨[(0, yLit l), (3, ⟨.obuf u8, (0 : Nat)⟩), (6, ⟨.int .u64, BitVec.ofNat 64 8 * BitVec.ofInt 64 (msg.length : Int)⟩), (7, ⟨i64, (8 * (7 - (j : Int)) : Int)⟩)], [(0, some (.buf 5 u8 (msg ++ [0x80] ++ List.replicate (zerosFor msg.length) 0 ++ (be64 msg.length).take j)))], 6⟩) (fun j => j ≤ 8) (fun j => 8 - j) 0 (by omega) ⟨⟨rfl, rfl, rfl, rfl, trivial⟩, ⟨bufEq (by simp), trivial⟩, rfl, rfl⟩ ?_
  intro j hj
  (repeat (first | refine AWP.seq ?_ | refine AWP.skip ?_ | refine AWP.block ?_ | refine AWP.exit ?_)); refine AWP.region hX yK_ok rfl ?_ ?_
  · trivial
  refine AWP.cond rfl (fun hb => ?_) (fun hb => ?_)
  · simp at hb
    (repeat (first | refine AWP.seq ?_ | refine AWP.skip ?_ | refine AWP.block ?_ | refine AWP.exit ?_)); refine AWP.region hX yK_ok rfl ?_ ?_
    · refine ⟨by show 0 ≤ 8 * (7 - (j : Int)); omega, ?_⟩
      show List.length (msg ++ [0x80] ++ List.replicate (zerosFor msg.length) 0 ++ (be64 msg.length).take j) + List.length [_] ≤ 1000000000
      simp; omega
    (repeat (first | refine AWP.seq ?_ | refine AWP.skip ?_ | refine AWP.block ?_ | refine AWP.exit ?_)); refine AWP.region hX yK_ok rfl ?_ ?_
    · exact inR_small (by show _ ≤ 8 * (7 - (j : Int)) - 8; omega) (by show 8 * (7 - (j : Int)) - 8 ≤ _; omega)
    refine ⟨j + 1, by omega, by omega, ⟨rfl, rfl, rfl, V.congr (show (8 * (7 - (j : Int)) - 8 : Int) = 8 * (7 - ((j + 1 : Nat) : Int)) by omega), trivial⟩, ⟨bufEq ?_, trivial⟩, rfl, rfl⟩
    rw [be64_take _ _ (by omega), ← sizeByte_eq _ _ hlen (by omega), ← List.append_assoc]
    rw [show (((7 - j : Nat)) : Int) = 7 - (j : Int) by omega]
    rfl
  simp at hb
  have : j = 8 := by omega
  subst this
  (repeat (first | refine AWP.seq ?_ | refine AWP.skip ?_ | refine AWP.label ?_ | refine AWP.exit ?_ | refine AWP.block ?_ | refine AWP.region hX yK_ok rfl trivial ?_ | refine AWP.region hX yK_ok rfl id ?_ | refine AWP.region hX yK_ok rfl ⟨id, id⟩ ?_))
  intro β a w1 h1
  have hXR : ∀ g, ¬ X.R g := Ownr.plain_noR _ _
  have hb1 : Below W.heap.size W w1 := h1.bel.below hXR
  have ho := h1.own 0 _ rfl
  have hn := fun g => h1.new 0 _ g rfl
  have h3 : a.tmps.getD 3 undef = β 0 := h1.fr 3
  have h0' : a.tmps.getD 0 undef = .func (.yield l) #[] #[] := h1.fr 0
  have hpl : pad msg = msg ++ [0x80] ++ List.replicate (zerosFor msg.length) 0 ++ (be64 msg.length).take 8 := rfl
  have hpl2 : (pad msg).length ≤ 2000200 := by simp [pad, be64, zerosFor]; omega
  rw [← hpl] at ho
  have h2 : Sim w1 (Ownr.plain (fun _ => True) (fun h => h < W.heap.size)) 53 ⟨[(0, yLit l), (3, ⟨bs, pad msg⟩)], [], 0⟩ β a w1 := by
    refine Sim.fresh rfl h1.sz h1.df (rep_cons h0' (rep_cons ?_ rep_nil)) rfl
    rw [h3]
    refine repD_repV (OwnRep.view (O := fun _ => True) (OwnRep.flat rfl ho) (fun _ _ _ => trivial) fun g hg hlt => ?_)
    rcases hn g hg with h | h
    · have : g < W.heap.size := hlt
      omega
    · exact hXR g h
  refine Go.wpIn_mono (blocks1_loop l J W (pad msg) (pad_length msg) hpl2 hJ (fun k x y W1 hj hy hs hr => YieldAt.any (hY k x y W1 hj hy hs hr)) h2 hb1.size (hJ 0 _ _ h0 hb1)) ?_
  rintro e a' w' ⟨rfl, hd, hj⟩
  exact ⟨hd, _, results_none rfl _ _ _, ⟨_, rfl⟩, hj⟩
end Go.Proofs.YtbbeldmcdjjnbaaDoor
