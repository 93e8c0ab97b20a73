/-
  The reference of chapter 23: Record, First.
-/
import Derived.Test.YtggappighcdbmaaDoorJKn
namespace Go.Proofs.YtggappighcdbmaaDoor
open Go Go.RowKit
set_option linter.unusedSimpArgs false
set_option linter.unusedVariables false
set_option maxRecDepth 100000
def kR : Kn := { dK with C := [(16, cRSum)] }
theorem kR_ok : KnOk Tryd.prog dG kR := dK_ok.with (.cons rsum_ok .nil)
theorem le4_step (n k : Nat) (hk : k < 4) : (le4 n).take k ++ [UInt8.ofNat (Int.toNat ((n : Int) / 2 ^ (8 * (k : Int)).toNat % 256))] = (le4 n).take (k + 1) := by
  have e : ∀ m : Nat, UInt8.ofNat (m % 256) = UInt8.ofNat m := fun m => UInt8.toNat_inj.1 (by rw [UInt8.toNat_ofNat', UInt8.toNat_ofNat']; omega)
  have e2 : Int.toNat ((n : Int) / 2 ^ (8 * (k : Int)).toNat % 256) = n / 2 ^ (8 * k) % 256 := by
    rw [show (8 * (k : Int)).toNat = 8 * k by omega]
    have : ((n : Int) / 2 ^ (8 * k) % 256) = ((n / 2 ^ (8 * k) % 256 : Nat) : Int) := by push_cast; rfl
    rw [this, Int.toNat_natCast]
  rw [e2, e]
  match k, hk with
  | 0, _ => show [] ++ [UInt8.ofNat (n / 1)] = [UInt8.ofNat n]; rw [Nat.div_one]; rfl
  | 1, _ => rfl
  | 2, _ => rfl
  | 3, _ => rfl
def cRecord : Ctr := { args := [bs], pre := fun x => [List.length x.1 ≤ 800000], res := bs, own := some 5, out := fun x => rcd x.1 }
theorem rrecord_ok : CtrOk Tryd.prog dG 37 cRecord := by
  refine ctr_of_awp (K := kR) kR_ok Tryd.func37 rfl rfl Tryd.call37 rfl (by decide) (by intro h; cases h) ?_
  rintro w0 X hX ⟨(b : List UInt8), _⟩ hp
  change AWP _ _ _ _ _ ⟨[(0, ⟨bs, b⟩)], [], 0⟩ _
  have hp : b.length ≤ 800000 := hp
  (repeat (first | refine AWP.seq ?_ | refine AWP.skip ?_ | refine AWP.label ?_ | refine AWP.exit ?_ | refine AWP.block ?_ | refine AWP.region hX kR_ok rfl trivial ?_ | refine AWP.region hX kR_ok rfl id ?_ | refine AWP.region hX kR_ok rfl ⟨id, id⟩ ?_))
  refine AWP.loop (ι := Nat) (fun k => ⟨[(0, ⟨bs, b⟩), (3, ⟨.obuf u8, (0 : Nat)⟩), (4, ⟨i64, (k : Int)⟩)], [(0, some (.buf 5 u8 ((le4 b.length).take k)))], 1⟩) (fun k => k ≤ 4) (fun k => 4 - k) 0 (by omega) ⟨⟨rfl, rfl, rfl, trivial⟩, ⟨rfl, trivial⟩, rfl, rfl⟩ ?_
  intro k hk
  have hm : ((le4 b.length).take k).length = k := by rw [List.length_take, le4_length]; omega
  (repeat (first | refine AWP.seq ?_ | refine AWP.skip ?_ | refine AWP.block ?_ | refine AWP.exit ?_)); refine AWP.region hX kR_ok rfl ?_ ?_
  · trivial
  refine AWP.cond rfl (fun hb => ?_) (fun hb => ?_)
  · have hb : decide ((k : Int) < 4) = true := hb
    have hb := of_decide_eq_true hb
    have c1 : inR .i64 (8 * (k : Int)) := inR_small (by omega) (by omega)
    (repeat (first | refine AWP.seq ?_ | refine AWP.skip ?_ | refine AWP.block ?_ | refine AWP.exit ?_)); refine AWP.region hX kR_ok rfl ?_ ?_
    · exact ⟨c1, by show (0 : Int) ≤ 8 * (k : Int); omega, by show 8 * (k : Int) ≤ 63; omega, by show ((le4 b.length).take k).length + 1 ≤ 1000000000; omega⟩
    (repeat (first | refine AWP.seq ?_ | refine AWP.skip ?_ | refine AWP.block ?_ | refine AWP.exit ?_)); refine AWP.region hX kR_ok rfl ?_ ?_
    · exact inR_succ (by omega)
    exact ⟨k + 1, by omega, by omega, ⟨rfl, rfl, vSucc _, trivial⟩, ⟨bufEq (le4_step _ k (by omega)), trivial⟩, rfl, rfl⟩
  · have hb : decide ((k : Int) < 4) = false := hb
    have hb := of_decide_eq_false hb
    have : k = 4 := by omega
    subst this
    (repeat (first | refine AWP.seq ?_ | refine AWP.skip ?_ | refine AWP.block ?_ | refine AWP.exit ?_)); refine AWP.region hX kR_ok rfl ?_ ?_
    · show b.length ≤ 2000000
      omega
    have hs := sha_length b
    (repeat (first | refine AWP.seq ?_ | refine AWP.skip ?_ | refine AWP.label ?_ | refine AWP.exit ?_ | refine AWP.block ?_ | refine AWP.region hX kR_ok rfl trivial ?_ | refine AWP.region hX kR_ok rfl id ?_ | refine AWP.region hX kR_ok rfl ⟨id, id⟩ ?_))
    refine AWP.loop (ι := Nat) (fun k => ⟨[(0, ⟨bs, b⟩), (3, ⟨.obuf u8, (0 : Nat)⟩), (5, ⟨.optr dg, ⟨1, dg, .here⟩⟩), (6, ⟨i64, (k : Int)⟩)], [(0, some (.buf 5 u8 (le4 b.length ++ (sha b).take k))), (1, some (.box dg (sha b)))], 2⟩) (fun k => k ≤ 8) (fun k => 8 - k) 0 (by omega) ⟨⟨rfl, rfl, rfl, rfl, trivial⟩, ⟨rfl, rfl, trivial⟩, rfl, rfl⟩ ?_
    intro k hk
    have hm : (le4 b.length ++ (sha b).take k).length = 4 + k := by rw [List.length_append, List.length_take, le4_length]; omega
    (repeat (first | refine AWP.seq ?_ | refine AWP.skip ?_ | refine AWP.block ?_ | refine AWP.exit ?_)); refine AWP.region hX kR_ok rfl ?_ ?_
    · trivial
    refine AWP.cond rfl (fun hb => ?_) (fun hb => ?_)
    · have hb : decide ((k : Int) < 8) = true := hb
      have hb := of_decide_eq_true hb
      (repeat (first | refine AWP.seq ?_ | refine AWP.skip ?_ | refine AWP.block ?_ | refine AWP.exit ?_)); refine AWP.region hX kR_ok rfl ?_ ?_
      · exact ⟨by omega, by show (k : Int) < 32; omega, by show (k : Int).toNat < 32; omega, by show (le4 b.length ++ (sha b).take k).length + 1 ≤ 1000000000; omega⟩
      (repeat (first | refine AWP.seq ?_ | refine AWP.skip ?_ | refine AWP.block ?_ | refine AWP.exit ?_)); refine AWP.region hX kR_ok rfl ?_ ?_
      · exact inR_succ (by omega)
      refine ⟨k + 1, by omega, by omega, ⟨rfl, rfl, rfl, vSucc _, trivial⟩, ⟨bufEq ?_, rfl, trivial⟩, rfl, rfl⟩
      show le4 b.length ++ (sha b).take k ++ [List.getD (sha b) (k : Int).toNat 0] = le4 b.length ++ (sha b).take (k + 1)
      rw [List.take_succ_eq_append_getElem (by omega : k < (sha b).length), List.append_assoc, Int.toNat_natCast, List.getD_eq_getElem?_getD, List.getElem?_eq_getElem (by omega : k < (sha b).length)]
      rfl
    · have hb : decide ((k : Int) < 8) = false := hb
      have hb := of_decide_eq_false hb
      have : k = 8 := by omega
      subst this
      (repeat (first | refine AWP.seq ?_ | refine AWP.skip ?_ | refine AWP.block ?_ | refine AWP.exit ?_)); refine AWP.region hX kR_ok rfl ?_ ?_
      · show (le4 b.length ++ (sha b).take 8).length + b.length ≤ 1000000000
        omega
      exact AWP.ret ⟨.inr rfl, doneO rfl rfl rfl⟩
theorem beq_byte {x y : UInt8} (h : x.toNat = y.toNat) : x = y := UInt8.toNat_inj.1 h
def cFirst : Ctr := { args := [bs], pre := fun x => [List.length x.1 ≤ 800000], res := i64, own := none, out := fun x => (first x.1 : Int) }
def kR2 : Kn := { dK with C := [(37, cRecord)] }
theorem kR2_ok : KnOk Tryd.prog dG kR2 := dK_ok.with (.cons rrecord_ok .nil)
theorem rfirst_ok : CtrOk Tryd.prog dG 38 cFirst := by
  refine ctr_of_awp (K := kR2) kR2_ok Tryd.func38 rfl rfl Tryd.call38 rfl (by decide) (by intro h; cases h) ?_
  rintro w0 X hX ⟨(b : List UInt8), _⟩ hp
  change AWP _ _ _ _ _ ⟨[(0, ⟨bs, b⟩)], [], 0⟩ _
  have hp : b.length ≤ 800000 := hp
  (repeat (first | refine AWP.seq ?_ | refine AWP.skip ?_ | refine AWP.block ?_ | refine AWP.exit ?_)); refine AWP.region hX kR2_ok rfl ?_ ?_
  · trivial
  (repeat (first | refine AWP.seq ?_ | refine AWP.skip ?_ | refine AWP.block ?_ | refine AWP.exit ?_)); refine AWP.region hX kR2_ok rfl ?_ ?_
  · trivial
  refine AWP.cond rfl (fun hb => ?_) (fun hb => ?_)
  · have hb : decide ((b.length : Int) < 12) = true := hb
    have hb := of_decide_eq_true hb
    (repeat (first | refine AWP.seq ?_ | refine AWP.skip ?_ | refine AWP.label ?_ | refine AWP.exit ?_ | refine AWP.block ?_ | refine AWP.region hX kR2_ok rfl trivial ?_ | refine AWP.region hX kR2_ok rfl id ?_ | refine AWP.region hX kR2_ok rfl ⟨id, id⟩ ?_))
    refine AWP.ret ⟨.inr rfl, done1 rfl trivial rfl rfl ?_⟩
    show (0 : Int) = (first b : Int)
    unfold first
    rw [if_pos (by omega)]
    rfl
  have hb : decide ((b.length : Int) < 12) = false := hb
  have hb := of_decide_eq_false hb
  have z0 : (0 : Int) < (b.length : Nat) := by omega
  have z1 : (1 : Int) < (b.length : Nat) := by omega
  have z2 : (2 : Int) < (b.length : Nat) := by omega
  have z3 : (3 : Int) < (b.length : Nat) := by omega
  have c0 : (b.getD 0 0).toNat < 256 := (b.getD 0 0).toNat_lt
  have c1 : (b.getD 1 0).toNat < 256 := (b.getD 1 0).toNat_lt
  have c2 : (b.getD 2 0).toNat < 256 := (b.getD 2 0).toNat_lt
  have c3 : (b.getD 3 0).toNat < 256 := (b.getD 3 0).toNat_lt
  have i1 : inR .i64 (256 * ((b.getD 1 0).toNat : Int)) := inR_small (by omega) (by omega)
  have i2 : inR .i64 (((b.getD 0 0).toNat : Int) + 256 * ((b.getD 1 0).toNat : Int)) := inR_small (by omega) (by omega)
  have i3 : inR .i64 (65536 * ((b.getD 2 0).toNat : Int)) := inR_small (by omega) (by omega)
  have i4 : inR .i64 (((b.getD 0 0).toNat : Int) + 256 * ((b.getD 1 0).toNat : Int) + 65536 * ((b.getD 2 0).toNat : Int)) := inR_small (by omega) (by omega)
  have i5 : inR .i64 (16777216 * ((b.getD 3 0).toNat : Int)) := inR_small (by omega) (by omega)
  have i6 : inR .i64 (((b.getD 0 0).toNat : Int) + 256 * ((b.getD 1 0).toNat : Int) + 65536 * ((b.getD 2 0).toNat : Int) + 16777216 * ((b.getD 3 0).toNat : Int)) := inR_small (by omega) (by omega)
  (repeat (first | refine AWP.seq ?_ | refine AWP.skip ?_ | refine AWP.block ?_ | refine AWP.exit ?_)); refine AWP.draw dM hX kR2_ok 23 (by kernel_rfl) rfl rfl ?_ ?_ ?_
  · exact ⟨Int.le_refl _, z0, by show (0 : Int) ≤ 1; omega, z1, i1, i2, by show (0 : Int) ≤ 2; omega, z2, i3, i4, by show (0 : Int) ≤ 3; omega, z3, i5, i6⟩
  · trivial
  have hz : ((b.getD 0 0).toNat : Int) + 256 * ((b.getD 1 0).toNat : Int) + 65536 * ((b.getD 2 0).toNat : Int) + 16777216 * ((b.getD 3 0).toNat : Int) = (size4 b : Nat) := by unfold size4; omega
  refine AWP.fit (σ' := ⟨[(0, ⟨bs, b⟩), (3, ⟨i64, ((size4 b : Nat) : Int)⟩)], [], 0⟩) ⟨⟨rfl, vI64 hz, trivial⟩, trivial, rfl, rfl⟩ ?_
  clear i1 i2 i3 i4 i5 i6 c0 c1 c2 c3 hz
  have hb12 : 12 ≤ b.length := by omega
  have d1 : inR .i64 ((b.length : Int) - 12) := inR_small (by omega) (by omega)
  (repeat (first | refine AWP.seq ?_ | refine AWP.skip ?_ | refine AWP.block ?_ | refine AWP.exit ?_)); refine AWP.region hX kR2_ok rfl ?_ ?_
  · exact d1
  refine AWP.cond rfl (fun hb => ?_) (fun hb => ?_)
  · have hb : decide (((size4 b : Nat) : Int) > (b.length : Int) - 12) = true := hb
    have hb := of_decide_eq_true hb
    (repeat (first | refine AWP.seq ?_ | refine AWP.skip ?_ | refine AWP.label ?_ | refine AWP.exit ?_ | refine AWP.block ?_ | refine AWP.region hX kR2_ok rfl trivial ?_ | refine AWP.region hX kR2_ok rfl id ?_ | refine AWP.region hX kR2_ok rfl ⟨id, id⟩ ?_))
    refine AWP.ret ⟨.inr rfl, done1 rfl trivial rfl rfl ?_⟩
    show (0 : Int) = (first b : Int)
    unfold first
    rw [if_neg (by omega), if_pos (by omega)]
    rfl
  have hb : decide (((size4 b : Nat) : Int) > (b.length : Int) - 12) = false := hb
  have hb := of_decide_eq_false hb
  have hn : size4 b ≤ b.length - 12 := by omega
  have d2 : inR .i64 (12 + ((size4 b : Nat) : Int)) := inR_small (by omega) (by omega)
  have d3 : (12 : Int) ≤ 12 + ((size4 b : Nat) : Int) := by omega
  have d4 : 12 + ((size4 b : Nat) : Int) ≤ (b.length : Nat) := by omega
  have d5 : (0 : Int) ≤ 12 + ((size4 b : Nat) : Int) := by omega
  have hx : List.drop (12 : Int).toNat (List.take (12 + ((size4 b : Nat) : Int)).toNat b) = (b.drop 12).take (size4 b) := by
    rw [show (12 + ((size4 b : Nat) : Int)).toNat = 12 + size4 b by omega, List.drop_take]
    congr 1
    omega
  (repeat (first | refine AWP.seq ?_ | refine AWP.skip ?_ | refine AWP.block ?_ | refine AWP.exit ?_)); refine AWP.region hX kR2_ok rfl ?_ ?_
  · refine ⟨d2, by show (0 : Int) ≤ 12; omega, d3, d4, ?_⟩
    show (List.drop (12 : Int).toNat (List.take (12 + ((size4 b : Nat) : Int)).toNat b)).length ≤ 800000
    rw [hx, List.length_take, List.length_drop]
    omega
  refine AWP.fit (σ' := ⟨[(0, ⟨bs, b⟩), (3, ⟨i64, ((size4 b : Nat) : Int)⟩), (4, ⟨.obuf u8, (0 : Nat)⟩)], [(0, some (.buf 5 u8 (rcd ((b.drop 12).take (size4 b)))))], 1⟩) ⟨⟨rfl, rfl, rfl, trivial⟩, ⟨bufEq (congrArg rcd hx), trivial⟩, rfl, rfl⟩ ?_
  refine AWP.frz hX 4 ?_
  (repeat (first | refine AWP.seq ?_ | refine AWP.skip ?_ | refine AWP.block ?_ | refine AWP.exit ?_)); refine AWP.draw dM hX kR2_ok 8 (by kernel_rfl) rfl rfl ?_ ?_ ?_
  · exact ⟨d2, d5, d4⟩
  · trivial
  have hf := first_eq hb12 hn
  have ht : (12 + ((size4 b : Nat) : Int)).toNat = 12 + size4 b := by omega
  refine AWP.cond rfl (fun hb => ?_) (fun hb => ?_)
  · have hb1 : (!eqb .str (rcd ((b.drop 12).take (size4 b))) (b.take (12 + ((size4 b : Nat) : Int)).toNat)) = true := hb
    rw [ht] at hb1
    have hne : ¬ rcd ((b.drop 12).take (size4 b)) = b.take (12 + size4 b) := fun h => by
      rw [h, eqb_self] at hb1
      cases hb1
    (repeat (first | refine AWP.seq ?_ | refine AWP.skip ?_ | refine AWP.label ?_ | refine AWP.exit ?_ | refine AWP.block ?_ | refine AWP.region hX kR2_ok rfl trivial ?_ | refine AWP.region hX kR2_ok rfl id ?_ | refine AWP.region hX kR2_ok rfl ⟨id, id⟩ ?_))
    refine AWP.ret ⟨.inr rfl, done1 rfl trivial rfl rfl ?_⟩
    show (0 : Int) = (first b : Int)
    rw [hf, if_neg hne]
    rfl
  · have hb1 : (!eqb .str (rcd ((b.drop 12).take (size4 b))) (b.take (12 + ((size4 b : Nat) : Int)).toNat)) = false := hb
    rw [ht] at hb1
    have heq : rcd ((b.drop 12).take (size4 b)) = b.take (12 + size4 b) := eqb_iff.1 (by simpa using hb1)
    (repeat (first | refine AWP.seq ?_ | refine AWP.skip ?_ | refine AWP.block ?_ | refine AWP.exit ?_)); refine AWP.region hX kR2_ok rfl ?_ ?_
    · exact d2
    refine AWP.ret ⟨.inr rfl, done1 rfl trivial rfl rfl ?_⟩
    show 12 + ((size4 b : Nat) : Int) = (first b : Int)
    rw [hf, if_pos heq]
    omega
end Go.Proofs.YtggappighcdbmaaDoor
