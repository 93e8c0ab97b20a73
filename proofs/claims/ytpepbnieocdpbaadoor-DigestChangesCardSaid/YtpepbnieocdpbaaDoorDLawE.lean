/-
  The statements of chapter 03: the laws answer true (fourth part).
-/
import Derived.Test.YtpepbnieocdpbaaDoorDLawB
namespace Go.Proofs.YtpepbnieocdpbaaDoor
open Go Go.RowKit
set_option linter.unusedSimpArgs false
set_option linter.unusedVariables false
set_option maxRecDepth 100000
theorem or_false2 {a b : Bool} (ha : a = false) (hb : b = false) (h : (bif a then true else b) = true) : False := by subst ha; subst hb; cases h
theorem neg_self {t : Ty} (a b : t.T) : (!eqb .bool (eqb t a b) (eqb t a b)) = false := by rw [eqb_self]; rfl
theorem vU8 {x y : UInt8} (h : x = y) : (⟨u8, x⟩ : V) = ⟨u8, y⟩ := by rw [h]
theorem vBs {x y : List UInt8} (h : x = y) : (⟨bs, x⟩ : V) = ⟨bs, y⟩ := by rw [h]
theorem law8_ok : CtrOk Tryd.prog dG 10 (lawCtr [bs, dg, .int .u16]) := by
  refine ctr_of_awp (K := kW) kW_ok Tryd.func10 rfl rfl Tryd.call10 rfl (by decide) (by intro h; cases h) ?_
  rintro w0 X hX ⟨(b : List UInt8), (key : List UInt8), (n : BitVec 16), _⟩ hp
  change AWP _ _ _ _ _ ⟨[(0, ⟨bs, b⟩), (1, ⟨dg, key⟩), (2, ⟨.int .u16, n⟩)], [], 0⟩ _
  refine AWP.alen 1 rfl fun hkl => ?_
  have hkl : key.length = 32 := hkl
  have h1 := take_le b 200
  have hn := n.isLt
  (repeat (first | refine AWP.seq ?_ | refine AWP.skip ?_ | refine AWP.block ?_ | refine AWP.exit ?_)); refine AWP.region hX kW_ok rfl ?_ ?_
  · trivial
  (repeat (first | refine AWP.seq ?_ | refine AWP.skip ?_ | refine AWP.block ?_ | refine AWP.exit ?_)); refine AWP.region hX kW_ok rfl ?_ ?_
  · trivial
  (repeat (first | refine AWP.seq ?_ | refine AWP.skip ?_ | refine AWP.block ?_ | refine AWP.exit ?_)); refine AWP.region hX kW_ok rfl ?_ ?_
  · exact ⟨by show (0 : Int) ≤ 200; omega, by show (200 : Int) ≤ 1000000; omega, by show 0 + (b.take 200).length ≤ 1000000000; omega⟩
  have q1 : (b.take 200).length ≤ 2000000 := by omega
  have q2 : (b.take 200).length ≤ 1000000 := by omega
  refine AWP.fit (σ' := ⟨[(2, ⟨.int .u16, n⟩), (4, ⟨.optr dg, ⟨0, dg, .here⟩⟩), (6, ⟨.bool, false⟩), (7, ⟨.bool, true⟩), (8, ⟨.obuf u8, (1 : Nat)⟩)], [(0, some (.box dg key)), (1, some (.buf 5 u8 (b.take 200)))], 2⟩) ⟨⟨rfl, rfl, rfl, rfl, rfl, trivial⟩, ⟨rfl, bufEq rfl, trivial⟩, rfl, rfl⟩ ?_
  generalize b.take 200 = x at *
  (repeat (first | refine AWP.seq ?_ | refine AWP.skip ?_ | refine AWP.block ?_ | refine AWP.exit ?_)); refine AWP.drawN dM hX kW_ok 9 (by kernel_rfl) rfl rfl ?_ ?_ ?_
  · repeat' (first | exact trivial | assumption | exact q1 | exact q2 | (refine ⟨?_, ?_⟩) | (intro _) | exact Nat.le_of_ble_eq_true rfl)
  · repeat' (first | exact trivial | assumption | (refine ⟨?_, ?_⟩) | (intro _) | exact Nat.le_of_ble_eq_true rfl)
  refine AWP.fit (σ' := ⟨[(2, ⟨.int .u16, n⟩), (4, ⟨.optr dg, ⟨0, dg, .here⟩⟩), (6, ⟨.bool, false⟩), (7, ⟨.bool, true⟩), (8, ⟨.obuf u8, (1 : Nat)⟩), (9, ⟨.optr dg, ⟨2, dg, .here⟩⟩), (10, ⟨.optr dg, ⟨3, dg, .here⟩⟩)], [(0, some (.box dg key)), (1, some (.buf 5 u8 x)), (2, some (.box dg (sha x))), (3, some (.box dg (hmac key x)))], 4⟩) ⟨⟨rfl, rfl, rfl, rfl, rfl, rfl, rfl, trivial⟩, ⟨rfl, rfl, rfl, rfl, trivial⟩, rfl, rfl⟩ ?_
  (repeat (first | refine AWP.seq ?_ | refine AWP.skip ?_ | refine AWP.block ?_ | refine AWP.exit ?_)); refine AWP.region hX kW_ok rfl ?_ ?_
  · exact ⟨(by decide : (256#16 : BitVec 16) ≠ 0), (by decide : (255#16 : BitVec 16) ≠ 0)⟩
  obtain ⟨m, hm⟩ : ∃ m : UInt8, UInt8.ofNat (n / BitVec.ofNat 16 (Int.toNat 256) % BitVec.ofNat 16 (Int.toNat 255) + BitVec.ofNat 16 (Int.toNat 1)).toNat = m := ⟨_, rfl⟩
  refine AWP.fit (σ' := ⟨[(2, ⟨.int .u16, n⟩), (4, ⟨.optr dg, ⟨0, dg, .here⟩⟩), (6, ⟨.bool, false⟩), (7, ⟨.bool, true⟩), (8, ⟨.obuf u8, (1 : Nat)⟩), (9, ⟨.optr dg, ⟨2, dg, .here⟩⟩), (10, ⟨.optr dg, ⟨3, dg, .here⟩⟩), (11, ⟨u8, m⟩)], [(0, some (.box dg key)), (1, some (.buf 5 u8 x)), (2, some (.box dg (sha x))), (3, some (.box dg (hmac key x)))], 4⟩) ⟨⟨rfl, rfl, rfl, rfl, rfl, rfl, rfl, vU8 hm, trivial⟩, ⟨rfl, rfl, rfl, rfl, trivial⟩, rfl, rfl⟩ ?_
  (repeat (first | refine AWP.seq ?_ | refine AWP.skip ?_ | refine AWP.block ?_ | refine AWP.exit ?_)); refine AWP.region hX kW_ok rfl ?_ ?_
  · trivial
  obtain ⟨j, hj, hj0, hj1⟩ : ∃ j : Int, (n.toNat : Int).tmod 32 = j ∧ 0 ≤ j ∧ j < 32 := ⟨_, rfl, Int.tmod_nonneg _ (by omega), Int.tmod_lt_of_pos _ (by omega)⟩
  (repeat (first | refine AWP.seq ?_ | refine AWP.skip ?_ | refine AWP.block ?_ | refine AWP.exit ?_)); refine AWP.region hX kW_ok rfl ?_ ?_
  · show allP [(32 : Int) ≠ 0, (32 : Int) ≠ 0, 0 ≤ (n.toNat : Int).tmod 32, (n.toNat : Int).tmod 32 < ((32 : Nat) : Int), ((n.toNat : Int).tmod 32).toNat < 32, 0 ≤ (n.toNat : Int).tmod 32, (n.toNat : Int).tmod 32 < ((32 : Nat) : Int), ((n.toNat : Int).tmod 32).toNat < 32]
    rw [hj]
    exact ⟨by omega, by omega, hj0, hj1, by omega, hj0, hj1, (by omega : j.toNat < 32)⟩
  obtain ⟨key2, hk2⟩ : ∃ k2 : List UInt8, key.set ((n.toNat : Int).tmod 32).toNat (key.getD ((n.toNat : Int).tmod 32).toNat (zeroX u8) ^^^ m) = k2 := ⟨_, rfl⟩
  refine AWP.fit (σ' := ⟨[(2, ⟨.int .u16, n⟩), (4, ⟨.optr dg, ⟨0, dg, .here⟩⟩), (6, ⟨.bool, false⟩), (7, ⟨.bool, true⟩), (8, ⟨.obuf u8, (1 : Nat)⟩), (9, ⟨.optr dg, ⟨2, dg, .here⟩⟩), (10, ⟨.optr dg, ⟨3, dg, .here⟩⟩), (11, ⟨u8, m⟩), (12, ⟨.optr dg, ⟨4, dg, .here⟩⟩)], [(0, some (.box dg key)), (1, some (.buf 5 u8 x)), (2, some (.box dg (sha x))), (3, some (.box dg (hmac key x))), (4, some (.box dg key2))], 5⟩) ⟨⟨rfl, rfl, rfl, rfl, rfl, rfl, rfl, rfl, rfl, trivial⟩, ⟨rfl, rfl, rfl, rfl, boxEq hk2, trivial⟩, rfl, rfl⟩ ?_
  clear hk2 hj0 hj1 hj hm
  have q3 : 0 + x.length ≤ 1000000000 := by omega
  (repeat (first | refine AWP.seq ?_ | refine AWP.skip ?_ | refine AWP.block ?_ | refine AWP.exit ?_)); refine AWP.region hX kW_ok rfl ?_ ?_
  · exact q3
  (repeat (first | refine AWP.seq ?_ | refine AWP.skip ?_ | refine AWP.block ?_ | refine AWP.exit ?_)); refine AWP.region hX kW_ok rfl ?_ ?_
  · show x.length + 1 ≤ 1000000000
    omega
  have q5 : x.length ≤ 900000 := by omega
  refine AWP.fit (σ' := ⟨[(2, ⟨.int .u16, n⟩), (4, ⟨.optr dg, ⟨0, dg, .here⟩⟩), (6, ⟨.bool, false⟩), (7, ⟨.bool, true⟩), (8, ⟨.obuf u8, (1 : Nat)⟩), (9, ⟨.optr dg, ⟨2, dg, .here⟩⟩), (10, ⟨.optr dg, ⟨3, dg, .here⟩⟩), (11, ⟨u8, m⟩), (12, ⟨.optr dg, ⟨4, dg, .here⟩⟩), (13, ⟨.obuf u8, (5 : Nat)⟩)], [(0, some (.box dg key)), (1, some (.buf 5 u8 x)), (2, some (.box dg (sha x))), (3, some (.box dg (hmac key x))), (4, some (.box dg key2)), (5, some (.buf 5 u8 (x ++ [0])))], 6⟩) ⟨⟨rfl, rfl, rfl, rfl, rfl, rfl, rfl, rfl, rfl, rfl, trivial⟩, ⟨rfl, rfl, rfl, rfl, rfl, bufEq rfl, trivial⟩, rfl, rfl⟩ ?_
  (repeat (first | refine AWP.seq ?_ | refine AWP.skip ?_ | refine AWP.block ?_ | refine AWP.exit ?_)); refine AWP.drawN dM hX kW_ok 9 (by kernel_rfl) rfl rfl ?_ ?_ ?_
  · repeat' (first | exact trivial | assumption | exact q1 | exact q5 | (refine ⟨?_, ?_⟩) | (intro _) | exact Nat.le_of_ble_eq_true rfl)
  · repeat' (first | exact trivial | assumption | (refine ⟨?_, ?_⟩) | (intro _) | exact Nat.le_of_ble_eq_true rfl)
  refine AWP.frz hX 13 ?_
  refine AWP.fit (σ' := ⟨[(2, ⟨.int .u16, n⟩), (4, ⟨.optr dg, ⟨0, dg, .here⟩⟩), (6, ⟨.bool, false⟩), (7, ⟨.bool, true⟩), (8, ⟨.obuf u8, (1 : Nat)⟩), (9, ⟨.optr dg, ⟨2, dg, .here⟩⟩), (10, ⟨.optr dg, ⟨3, dg, .here⟩⟩), (11, ⟨u8, m⟩), (12, ⟨.optr dg, ⟨4, dg, .here⟩⟩), (13, ⟨bs, x ++ [0]⟩), (14, ⟨.optr dg, ⟨6, dg, .here⟩⟩), (15, ⟨.optr dg, ⟨7, dg, .here⟩⟩)], [(0, some (.box dg key)), (1, some (.buf 5 u8 x)), (2, some (.box dg (sha x))), (3, some (.box dg (hmac key x))), (4, some (.box dg key2)), (6, some (.box dg (sha x))), (7, some (.box dg (hmac key x)))], 8⟩) ⟨⟨rfl, rfl, rfl, rfl, rfl, rfl, rfl, rfl, rfl, rfl, rfl, rfl, trivial⟩, ⟨rfl, rfl, rfl, rfl, rfl, rfl, rfl, trivial⟩, rfl, rfl⟩ ?_
  have q4 : (x ++ [0]).length ≤ 2000000 := by rw [List.length_append, List.length_singleton]; omega
  (repeat (first | refine AWP.seq ?_ | refine AWP.skip ?_ | refine AWP.block ?_ | refine AWP.exit ?_)); refine AWP.draw dM hX kW_ok 22 (by kernel_rfl) rfl rfl ?_ ?_ ?_
  · repeat' (first | exact trivial | assumption | exact q1 | exact q2 | exact q4 | exact q5 | (refine ⟨?_, ?_⟩) | (intro _) | exact Nat.le_of_ble_eq_true rfl)
  · trivial
  refine AWP.cond rfl (fun hb => ?_) (fun hb => ?_)
  · exact (or_false2 (neg_self _ _) (neg_self _ _) hb).elim
  clear hb
  refine AWP.fit (σ' := ⟨[(2, ⟨.int .u16, n⟩), (4, ⟨.optr dg, ⟨0, dg, .here⟩⟩), (6, ⟨.bool, false⟩), (7, ⟨.bool, true⟩), (8, ⟨.obuf u8, (1 : Nat)⟩), (9, ⟨.optr dg, ⟨2, dg, .here⟩⟩), (10, ⟨.optr dg, ⟨3, dg, .here⟩⟩), (11, ⟨u8, m⟩), (14, ⟨.optr dg, ⟨6, dg, .here⟩⟩), (15, ⟨.optr dg, ⟨7, dg, .here⟩⟩)], [(0, some (.box dg key)), (1, some (.buf 5 u8 x)), (2, some (.box dg (sha x))), (3, some (.box dg (hmac key x))), (6, some (.box dg (sha x))), (7, some (.box dg (hmac key x)))], 8⟩) ⟨⟨rfl, rfl, rfl, rfl, rfl, rfl, rfl, rfl, rfl, rfl, trivial⟩, ⟨rfl, rfl, rfl, rfl, rfl, rfl, trivial⟩, rfl, rfl⟩ ?_
  (repeat (first | refine AWP.seq ?_ | refine AWP.skip ?_ | refine AWP.block ?_ | refine AWP.exit ?_)); refine AWP.region hX kW_ok rfl ?_ ?_
  · trivial
  refine AWP.cond rfl (fun hb => ?_) (fun hb => ?_)
  · (repeat (first | refine AWP.seq ?_ | refine AWP.skip ?_ | refine AWP.label ?_ | refine AWP.exit ?_ | refine AWP.block ?_ | refine AWP.region hX kW_ok rfl trivial ?_ | refine AWP.region hX kW_ok rfl id ?_ | refine AWP.region hX kW_ok rfl ⟨id, id⟩ ?_))
    refine AWP.ret ⟨.inr rfl, done1 rfl trivial rfl rfl rfl⟩
  have hx0 : x.length ≠ 0 := by
    intro h
    rw [show ((x.length : Int) == 0) = true from by rw [h]; rfl] at hb
    cases hb
  clear hb
  obtain ⟨j, hj, hj0, hj1⟩ : ∃ j : Int, (n.toNat : Int).tmod (x.length : Int) = j ∧ 0 ≤ j ∧ j < (x.length : Int) := ⟨_, rfl, Int.tmod_nonneg _ (by omega), Int.tmod_lt_of_pos _ (by omega)⟩
  have j1 : (x.length : Int) ≠ 0 := by omega
  have j2 : 0 ≤ (n.toNat : Int).tmod (x.length : Int) := by omega
  have j3 : (n.toNat : Int).tmod (x.length : Int) < (x.length : Int) := by omega
  have j4 : ((n.toNat : Int).tmod (x.length : Int)).toNat < x.length := by omega
  (repeat (first | refine AWP.seq ?_ | refine AWP.skip ?_ | refine AWP.block ?_ | refine AWP.exit ?_)); refine AWP.draw dM hX kW_ok 17 (by kernel_rfl) rfl rfl ?_ ?_ ?_
  · exact ⟨j1, j1, j2, j3, j4, j2, j3⟩
  · exact j4
  obtain ⟨z, hz⟩ : ∃ z : List UInt8, x.set ((n.toNat : Int).tmod (x.length : Int)).toNat (x.getD ((n.toNat : Int).tmod (x.length : Int)).toNat (zeroX u8) ^^^ m) = z := ⟨_, rfl⟩
  have hzl : z.length = x.length := by rw [← hz, List.length_set]
  refine AWP.frz hX 8 ?_
  refine AWP.fit (σ' := ⟨[(4, ⟨.optr dg, ⟨0, dg, .here⟩⟩), (6, ⟨.bool, false⟩), (7, ⟨.bool, true⟩), (8, ⟨bs, z⟩), (9, ⟨.optr dg, ⟨2, dg, .here⟩⟩), (10, ⟨.optr dg, ⟨3, dg, .here⟩⟩), (14, ⟨.optr dg, ⟨6, dg, .here⟩⟩), (15, ⟨.optr dg, ⟨7, dg, .here⟩⟩)], [(0, some (.box dg key)), (2, some (.box dg (sha x))), (3, some (.box dg (hmac key x))), (6, some (.box dg (sha x))), (7, some (.box dg (hmac key x)))], 8⟩) ⟨⟨rfl, rfl, rfl, vBs hz, rfl, rfl, rfl, rfl, trivial⟩, ⟨rfl, rfl, rfl, rfl, rfl, trivial⟩, rfl, rfl⟩ ?_
  have p1 : z.length ≤ 2000000 := by omega
  have p2 : z.length ≤ 1000000 := by omega
  have p3 : z.length ≤ 900000 := by omega
  (repeat (first | refine AWP.seq ?_ | refine AWP.skip ?_ | refine AWP.block ?_ | refine AWP.exit ?_)); refine AWP.draw dM hX kW_ok 26 (by kernel_rfl) rfl rfl ?_ ?_ ?_
  · repeat' (first | exact trivial | assumption | exact p1 | exact p2 | exact p3 | (refine ⟨?_, ?_⟩) | (intro _) | exact Nat.le_of_ble_eq_true rfl)
  · trivial
  refine AWP.ret ⟨.inr rfl, done1 rfl trivial rfl rfl ?_⟩
  exact bif_true (bif_true (eqb_self _) (eqb_self _)) rfl
end Go.Proofs.YtpepbnieocdpbaaDoor
