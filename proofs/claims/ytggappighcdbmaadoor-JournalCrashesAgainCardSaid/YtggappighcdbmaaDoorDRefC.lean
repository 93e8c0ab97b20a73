/-
  The digest reference, third part: padding, Sum, Bytes, Block, Keyed, Fields.
-/
import Derived.Test.YtggappighcdbmaaDoorDRefB
namespace Go.Proofs.YtggappighcdbmaaDoor
open Go Go.RowKit
set_option linter.unusedSimpArgs false
set_option linter.unusedVariables false
set_option maxRecDepth 100000
def cPadded : Ctr := { args := [bs], pre := fun x => [List.length x.1 ≤ 2000000], res := bs, own := some 5, out := fun x => pad x.1 }
theorem tmod64 (n : Nat) : ((n : Int)).tmod 64 = ((n % 64 : Nat) : Int) := rfl
theorem sizeByte_eq (n i : Nat) (h : n ≤ 2000000) (hi : i < 8) : UInt8.ofNat (BitVec.toNat ((BitVec.ofNat 64 8 * BitVec.ofInt 64 (n : Int)) >>> (8 * (i : Int)).toNat)) = sizeByte n i := by
  unfold sizeByte
  congr 1
  rw [BitVec.toNat_ushiftRight, Nat.shiftRight_eq_div_pow, BitVec.toNat_mul, BitVec.toNat_ofInt, BitVec.toNat_ofNat]
  rw [show (8 * (i : Int)).toNat = 8 * i by omega]
  congr 1
  omega
theorem be64_take (n j : Nat) (hj : j < 8) : (be64 n).take (j + 1) = (be64 n).take j ++ [sizeByte n (7 - j)] := by
  rcases (by omega : j = 0 ∨ j = 1 ∨ j = 2 ∨ j = 3 ∨ j = 4 ∨ j = 5 ∨ j = 6 ∨ j = 7) with rfl | rfl | rfl | rfl | rfl | rfl | rfl | rfl <;> rfl
theorem padded_ok : CtrOk Tryd.prog dG 32 cPadded := by
  refine ctr_of_awp (K := dK) dK_ok Tryd.func32 rfl rfl Tryd.call32 rfl (by decide) (by intro h; cases h) ?_
  rintro w0 X hX ⟨(l : List UInt8), _⟩ hp
  change AWP _ _ _ _ _ ⟨[(0, ⟨bs, l⟩)], [], 0⟩ _
  have hp : l.length ≤ 2000000 := hp
  (repeat (first | refine AWP.seq ?_ | refine AWP.skip ?_ | refine AWP.block ?_ | refine AWP.exit ?_)); refine AWP.region hX dK_ok rfl ?_ ?_
  · trivial
  (repeat (first | refine AWP.seq ?_ | refine AWP.skip ?_ | refine AWP.block ?_ | refine AWP.exit ?_)); refine AWP.region hX dK_ok rfl ?_ ?_
  · show List.length _ + l.length ≤ 1000000000
    simp; omega
  (repeat (first | refine AWP.seq ?_ | refine AWP.skip ?_ | refine AWP.block ?_ | refine AWP.exit ?_)); refine AWP.region hX dK_ok rfl ?_ ?_
  · show List.length (List.replicate 0 (0 : UInt8) ++ l) + List.length [(128 : UInt8)] ≤ 1000000000
    simp; omega
  have hz : zerosFor l.length < 64 := by unfold zerosFor; omega
  (repeat (first | refine AWP.seq ?_ | refine AWP.skip ?_ | refine AWP.label ?_ | refine AWP.exit ?_ | refine AWP.block ?_ | refine AWP.region hX dK_ok rfl trivial ?_ | refine AWP.region hX dK_ok rfl id ?_ | refine AWP.region hX dK_ok rfl ⟨id, id⟩ ?_))
  refine AWP.loop (ι := Nat) (fun k => ⟨[(0, ⟨bs, l⟩), (3, ⟨.obuf u8, (0 : Nat)⟩)], [(0, some (.buf 5 u8 (l ++ [0x80] ++ List.replicate k 0)))], 5⟩) (fun k => k ≤ zerosFor l.length) (fun k => zerosFor l.length - k) 0 (by omega) ⟨⟨rfl, rfl, trivial⟩, ⟨bufEq (by simp), trivial⟩, rfl, rfl⟩ ?_
  intro k hk
  (repeat (first | refine AWP.seq ?_ | refine AWP.skip ?_ | refine AWP.block ?_ | refine AWP.exit ?_)); refine AWP.region hX dK_ok rfl ?_ ?_
  · (simp only [allP, inR64]; (and_intros <;> first | omega | (simp; done) | (simp; omega)))
  have hlen : (l ++ [0x80] ++ List.replicate k 0).length = l.length + 1 + k := by simp; omega
  refine AWP.cond rfl (fun hb => ?_) (fun hb => ?_)
  · have hb : (((l ++ [0x80] ++ List.replicate k 0).length : Int).tmod 64 != 56) = true := hb
    rw [tmod64, hlen] at hb
    simp at hb
    have hlt : k < zerosFor l.length := by
      rcases Nat.lt_or_ge k (zerosFor l.length) with h | h
      · exact h
      · exfalso; apply hb; have : k = zerosFor l.length := by omega
        rw [this]; unfold zerosFor; omega
    (repeat (first | refine AWP.seq ?_ | refine AWP.skip ?_ | refine AWP.block ?_ | refine AWP.exit ?_)); refine AWP.region hX dK_ok rfl ?_ ?_
    · show List.length (l ++ [0x80] ++ List.replicate k 0) + List.length [(0 : UInt8)] ≤ 1000000000
      rw [hlen]; simp; omega
    refine ⟨k + 1, by omega, by omega, ⟨rfl, rfl, trivial⟩, ⟨bufEq ?_, trivial⟩, rfl, rfl⟩
    show l ++ [0x80] ++ List.replicate k 0 ++ [0] = _
    rw [List.replicate_succ', List.append_assoc]
  · have hb : (((l ++ [0x80] ++ List.replicate k 0).length : Int).tmod 64 != 56) = false := hb
    rw [tmod64, hlen] at hb
    simp at hb
    have : k = zerosFor l.length := by unfold zerosFor at *; omega
    subst this
    (repeat (first | refine AWP.seq ?_ | refine AWP.skip ?_ | refine AWP.label ?_ | refine AWP.exit ?_ | refine AWP.block ?_ | refine AWP.region hX dK_ok rfl trivial ?_ | refine AWP.region hX dK_ok rfl id ?_ | refine AWP.region hX dK_ok rfl ⟨id, id⟩ ?_))
    refine AWP.loop (ι := Nat) (fun j => ⟨[(0, ⟨bs, l⟩), (3, ⟨.obuf u8, (0 : Nat)⟩), (4, ⟨.int .u64, BitVec.ofNat 64 8 * BitVec.ofInt 64 (l.length : Int)⟩), (5, ⟨i64, (7 - (j : Int) : Int)⟩)], [(0, some (.buf 5 u8 (l ++ [0x80] ++ List.replicate (zerosFor l.length) 0 ++ (be64 l.length).take j)))], 6⟩) (fun j => j ≤ 8) (fun j => 8 - j) 0 (by omega) ⟨⟨rfl, rfl, rfl, rfl, trivial⟩, ⟨bufEq (by simp), trivial⟩, rfl, rfl⟩ ?_
    intro j hj
    (repeat (first | refine AWP.seq ?_ | refine AWP.skip ?_ | refine AWP.block ?_ | refine AWP.exit ?_)); refine AWP.region hX dK_ok rfl ?_ ?_
    · trivial
    refine AWP.cond rfl (fun hb => ?_) (fun hb => ?_)
    · simp at hb
      (repeat (first | refine AWP.seq ?_ | refine AWP.skip ?_ | refine AWP.block ?_ | refine AWP.exit ?_)); refine AWP.region hX dK_ok rfl ?_ ?_
      · refine ⟨inR_small (by show _ ≤ 8 * (7 - (j : Int)); omega) (by show 8 * (7 - (j : Int)) ≤ _; omega), by show 0 ≤ 8 * (7 - (j : Int)); omega, ?_⟩
        show List.length (l ++ [0x80] ++ List.replicate (zerosFor l.length) 0 ++ (be64 l.length).take j) + List.length [_] ≤ 1000000000
        simp; omega
      (repeat (first | refine AWP.seq ?_ | refine AWP.skip ?_ | refine AWP.block ?_ | refine AWP.exit ?_)); refine AWP.region hX dK_ok rfl ?_ ?_
      · exact inR_small (by show _ ≤ 7 - (j : Int) - 1; omega) (by show 7 - (j : Int) - 1 ≤ _; omega)
      refine ⟨j + 1, by omega, by omega, ⟨rfl, rfl, rfl, V.congr (show (7 - (j : Int) - 1 : Int) = 7 - ((j + 1 : Nat) : Int) by omega), trivial⟩, ⟨bufEq ?_, trivial⟩, rfl, rfl⟩
      rw [be64_take _ _ (by omega), ← sizeByte_eq _ _ hp (by omega), ← List.append_assoc]
      rw [show (((7 - j : Nat)) : Int) = 7 - (j : Int) by omega]
      rfl
    · simp at hb
      have : j = 8 := by omega
      subst this
      (repeat (first | refine AWP.seq ?_ | refine AWP.skip ?_ | refine AWP.label ?_ | refine AWP.exit ?_ | refine AWP.block ?_ | refine AWP.region hX dK_ok rfl trivial ?_ | refine AWP.region hX dK_ok rfl id ?_ | refine AWP.region hX dK_ok rfl ⟨id, id⟩ ?_))
      refine AWP.ret ⟨.inr rfl, doneO rfl rfl ?_⟩
      rfl
def k3 : Kn := { dK with C := [(32, cPadded), (33, cStep)] }
theorem k3_ok : KnOk Tryd.prog dG k3 := dK_ok.with (CsOk.cons padded_ok (CsOk.cons step_ok CsOk.nil))
def cRSum : Ctr := { args := [bs], pre := fun x => [List.length x.1 ≤ 2000000], res := dg, own := none, out := fun x => sha x.1 }
def digL (s : St) (i : Nat) : List UInt8 := (List.range i).map (digestByte s) ++ List.replicate (32 - i) 0
theorem digL_set (s : St) (i : Nat) (h : i < 32) : (digL s i).set i (digestByte s i) = digL s (i + 1) := by
  unfold digL
  rw [List.set_append_right _ _ (by simp)]
  simp only [List.length_map, List.length_range, Nat.sub_self, List.range_succ, List.map_append, List.append_assoc, List.map_cons, List.map_nil]
  rw [show 32 - i = (32 - (i + 1)) + 1 by omega, List.replicate_succ]
  rfl
theorem stOf_words (t : St) : stOf (stWords t) = t := rfl
theorem rsum_ok : CtrOk Tryd.prog dG 16 cRSum := by
  refine ctr_of_awp (K := k3) k3_ok Tryd.func16 rfl rfl Tryd.call16 rfl (by decide) (by intro h; cases h) ?_
  rintro w0 X hX ⟨(l : List UInt8), _⟩ hp
  change AWP _ _ _ _ _ ⟨[(0, ⟨bs, l⟩)], [], 0⟩ _
  have hp : l.length ≤ 2000000 := hp
  (repeat (first | refine AWP.seq ?_ | refine AWP.skip ?_ | refine AWP.label ?_ | refine AWP.exit ?_ | refine AWP.block ?_ | refine AWP.region hX k3_ok rfl trivial ?_ | refine AWP.region hX k3_ok rfl id ?_ | refine AWP.region hX k3_ok rfl ⟨id, id⟩ ?_))
  (repeat (first | refine AWP.seq ?_ | refine AWP.skip ?_ | refine AWP.block ?_ | refine AWP.exit ?_)); refine AWP.region hX k3_ok rfl ?_ ?_
  · exact hp
  (repeat (first | refine AWP.seq ?_ | refine AWP.skip ?_ | refine AWP.label ?_ | refine AWP.exit ?_ | refine AWP.block ?_ | refine AWP.region hX k3_ok rfl trivial ?_ | refine AWP.region hX k3_ok rfl id ?_ | refine AWP.region hX k3_ok rfl ⟨id, id⟩ ?_))
  refine AWP.frz hX 4 ?_
  have hpl := pad_length l
  have hpl2 : (pad l).length ≤ 2000100 := by simp [pad, be64, zerosFor]; omega
  generalize hpd : pad l = p at *
  refine AWP.loop (ι := Nat) (fun k => ⟨[(2, ⟨.optr dg, ⟨0, dg, .here⟩⟩), (3, ⟨.optr arr8, ⟨1, arr8, .here⟩⟩), (4, ⟨bs, p⟩), (5, ⟨i64, (((64 * k : Nat) : Int) : Int)⟩)], [(0, some (.box dg (List.replicate 32 (0 : UInt8)))), (1, some (.box arr8 (stWords (blocksTo p k))))], 3⟩) (fun k => 64 * k ≤ p.length) (fun k => p.length - 64 * k) 0 (by omega) ⟨⟨rfl, rfl, V.congr hpd, rfl, trivial⟩, ⟨rfl, boxEq rfl, trivial⟩, rfl, rfl⟩ ?_
  intro k hk
  (repeat (first | refine AWP.seq ?_ | refine AWP.skip ?_ | refine AWP.label ?_ | refine AWP.exit ?_ | refine AWP.block ?_ | refine AWP.region hX k3_ok rfl trivial ?_ | refine AWP.region hX k3_ok rfl id ?_ | refine AWP.region hX k3_ok rfl ⟨id, id⟩ ?_))
  refine AWP.cond rfl (fun hb => ?_) (fun hb => ?_)
  · simp at hb
    (repeat (first | refine AWP.seq ?_ | refine AWP.skip ?_ | refine AWP.block ?_ | refine AWP.exit ?_)); refine AWP.draw dM hX k3_ok 7 (by kernel_rfl) rfl rfl ?_ ?_ ?_
    · refine ⟨inR_small (by show _ ≤ ((64 * k : Nat) : Int) + 64; omega) (by show ((64 * k : Nat) : Int) + 64 ≤ _; omega), by show 0 ≤ ((64 * k : Nat) : Int); omega, by show ((64 * k : Nat) : Int) ≤ ((64 * k : Nat) : Int) + 64; omega, by show ((64 * k : Nat) : Int) + 64 ≤ (p.length : Nat); omega, ?_⟩
      show List.length (((p.take (((64 * k : Nat) : Int) + 64).toNat)).drop ((64 * k : Nat) : Int).toNat) = 64
      simp; omega
    · trivial
    (repeat (first | refine AWP.seq ?_ | refine AWP.skip ?_ | refine AWP.block ?_ | refine AWP.exit ?_)); refine AWP.region hX k3_ok rfl ?_ ?_
    · exact inR_small (by show _ ≤ ((64 * k : Nat) : Int) + 64; omega) (by show ((64 * k : Nat) : Int) + 64 ≤ _; omega)
    refine ⟨k + 1, by omega, by omega, ⟨rfl, rfl, rfl, V.congr (show ((64 * k : Nat) : Int) + 64 = ((64 * (k + 1) : Nat) : Int) by omega), trivial⟩, ⟨rfl, boxEq ?_, trivial⟩, rfl, rfl⟩
    show stWords (compress (stOf (stWords (blocksTo p k))) ((p.take (((64 * k : Nat) : Int) + 64).toNat).drop ((64 * k : Nat) : Int).toNat)) = stWords (compress (blocksTo p k) ((p.drop (64 * k)).take 64))
    rw [stOf_words, show (((64 * k : Nat) : Int) + 64).toNat = 64 * k + 64 by omega, show ((64 * k : Nat) : Int).toNat = 64 * k by omega, List.drop_take, show 64 * k + 64 - 64 * k = 64 by omega]
  · simp at hb
    have hk2 : k = p.length / 64 := by omega
    have hfin : sha l = digestOf (blocksTo p k) := by rw [sha, hpd, hk2]
    generalize blocksTo p k = t at *
    (repeat (first | refine AWP.seq ?_ | refine AWP.skip ?_ | refine AWP.label ?_ | refine AWP.exit ?_ | refine AWP.block ?_ | refine AWP.region hX k3_ok rfl trivial ?_ | refine AWP.region hX k3_ok rfl id ?_ | refine AWP.region hX k3_ok rfl ⟨id, id⟩ ?_))
    refine AWP.loop (ι := Nat) (fun i => ⟨[(2, ⟨.optr dg, ⟨0, dg, .here⟩⟩), (3, ⟨.optr arr8, ⟨1, arr8, .here⟩⟩), (6, ⟨.optr dg, ⟨3, dg, .here⟩⟩), (7, ⟨i64, (i : Int)⟩)], [(0, some (.box dg (List.replicate 32 (0 : UInt8)))), (1, some (.box arr8 (stWords t))), (3, some (.box dg (digL t i)))], 4⟩) (fun i => i ≤ 32) (fun i => 32 - i) 0 (by omega) ⟨⟨rfl, rfl, rfl, rfl, trivial⟩, ⟨rfl, rfl, boxEq rfl, trivial⟩, rfl, rfl⟩ ?_
    intro i hi
    (repeat (first | refine AWP.seq ?_ | refine AWP.skip ?_ | refine AWP.label ?_ | refine AWP.exit ?_ | refine AWP.block ?_ | refine AWP.region hX k3_ok rfl trivial ?_ | refine AWP.region hX k3_ok rfl id ?_ | refine AWP.region hX k3_ok rfl ⟨id, id⟩ ?_))
    refine AWP.cond rfl (fun hb => ?_) (fun hb => ?_)
    · simp at hb
      have e4 : ((i : Int)).tdiv 4 = ((i / 4 : Nat) : Int) := rfl
      have r4 : ((i : Int)).tmod 4 = ((i % 4 : Nat) : Int) := rfl
      (repeat (first | refine AWP.seq ?_ | refine AWP.skip ?_ | refine AWP.block ?_ | refine AWP.exit ?_)); refine AWP.region hX k3_ok rfl ?_ ?_
      · simp only [allP, inR64, e4, r4]
        and_intros <;> first | omega | (simp; done) | (simp; omega)
      (repeat (first | refine AWP.seq ?_ | refine AWP.skip ?_ | refine AWP.block ?_ | refine AWP.exit ?_)); refine AWP.region hX k3_ok rfl ?_ ?_
      · exact inR_succ (by omega)
      refine ⟨i + 1, by omega, by omega, ⟨rfl, rfl, rfl, vSucc _, trivial⟩, ⟨rfl, rfl, boxEq ?_, trivial⟩, rfl, rfl⟩
      rw [← digL_set t i (by omega)]
      show List.set (digL t i) (i : Int).toNat (UInt8.ofNat (BitVec.toNat ((List.getD (stWords t) (((i : Int)).tdiv 4).toNat 0) >>> (24 - 8 * ((i : Int)).tmod 4).toNat))) = _
      rw [e4, r4]
      unfold digestByte lo8
      congr 4
      omega
    · simp at hb
      have : i = 32 := by omega
      subst this
      (repeat (first | refine AWP.seq ?_ | refine AWP.skip ?_ | refine AWP.label ?_ | refine AWP.exit ?_ | refine AWP.block ?_ | refine AWP.region hX k3_ok rfl trivial ?_ | refine AWP.region hX k3_ok rfl id ?_ | refine AWP.region hX k3_ok rfl ⟨id, id⟩ ?_))
      refine AWP.ret ⟨.inr rfl, done1 rfl trivial rfl rfl ?_⟩
      show digL t 32 = sha l
      rw [hfin]
      simp [digL, digestOf]
end Go.Proofs.YtggappighcdbmaaDoor
