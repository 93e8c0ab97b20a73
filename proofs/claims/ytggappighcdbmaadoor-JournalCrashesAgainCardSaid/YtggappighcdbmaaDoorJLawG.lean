/-
  The statements of chapter 23: JournalLimits, JournalMatchesReference, JournalMadeMatchesReference.
-/
import Derived.Test.YtggappighcdbmaaDoorJLawF
namespace Go.Proofs.YtggappighcdbmaaDoor
open Go Go.RowKit
set_option linter.unusedSimpArgs false
set_option linter.unusedVariables false
set_option maxRecDepth 100000
theorem sameLog_self (a : Lg) : sameLog a a = true := by
  unfold sameLog
  rw [eqb_self]
  exact beqI _
theorem bneI (x : Int) : (x != x) = false := by simp
theorem bif_false {a b : Bool} (ha : a = false) (hb : b = false) : (bif a then true else b) = false := by subst ha; subst hb; rfl
theorem law5_ok : CtrOk Tryd.prog dG 6 (lawCtr [u8, u8]) := by
  refine ctr_of_awp (K := kW) kW_ok Tryd.func6 rfl rfl Tryd.call6 rfl (by decide) (by intro h; cases h) ?_
  rintro w0 X hX ⟨(o : UInt8), (f : UInt8), _⟩ hp
  change AWP _ _ _ _ _ ⟨[(0, ⟨u8, o⟩), (1, ⟨u8, f⟩)], [], 0⟩ _
  have ho := o.toNat_lt
  have h0 : 0 ≤ Int.tmod ((o.toNat : Nat) : Int) 3 := Int.tmod_nonneg _ (by omega)
  have h1 : Int.tmod ((o.toNat : Nat) : Int) 3 < 3 := Int.tmod_lt_of_pos _ (by omega)
  (repeat (first | refine AWP.seq ?_ | refine AWP.skip ?_ | refine AWP.block ?_ | refine AWP.exit ?_)); refine AWP.region hX kW_ok rfl ?_ ?_
  · trivial
  (repeat (first | refine AWP.seq ?_ | refine AWP.skip ?_ | refine AWP.block ?_ | refine AWP.exit ?_)); refine AWP.region hX kW_ok rfl ?_ ?_
  · trivial
  (repeat (first | refine AWP.seq ?_ | refine AWP.skip ?_ | refine AWP.block ?_ | refine AWP.exit ?_)); refine AWP.region hX kW_ok rfl ?_ ?_
  · trivial
  obtain ⟨d, hd⟩ : ∃ d, Int.tmod ((o.toNat : Nat) : Int) 3 = d := ⟨_, rfl⟩
  rw [hd] at h0 h1
  (repeat (first | refine AWP.seq ?_ | refine AWP.skip ?_ | refine AWP.block ?_ | refine AWP.exit ?_)); refine AWP.region hX kW_ok rfl ?_ ?_
  · show allP [(3 : Int) ≠ 0, inR .i64 (1048564 + Int.tmod ((o.toNat : Nat) : Int) 3), inR .i64 (1048564 + Int.tmod ((o.toNat : Nat) : Int) 3 - 1), 0 ≤ 1048564 + Int.tmod ((o.toNat : Nat) : Int) 3 - 1, 1048564 + Int.tmod ((o.toNat : Nat) : Int) 3 - 1 ≤ 1048564 + Int.tmod ((o.toNat : Nat) : Int) 3 - 1, 1048564 + Int.tmod ((o.toNat : Nat) : Int) 3 - 1 ≤ 1000000000]
    rw [hd]
    exact ⟨by decide, inR_small (by omega) (by omega), inR_small (by omega) (by omega), by show 0 ≤ 1048564 + d - 1; omega, Int.le_refl _, by show 1048564 + d - 1 ≤ 1000000000; omega⟩
  obtain ⟨n, hn⟩ : ∃ n : Nat, n = (1048564 + d - 1).toNat := ⟨_, rfl⟩
  have hnn : (n : Int) = 1048564 + d - 1 := by omega
  obtain ⟨b0, hb0⟩ : ∃ b0 : List UInt8, b0 = List.replicate n 0 := ⟨_, rfl⟩
  have hl0 : b0.length = n := by rw [hb0, List.length_replicate]
  refine AWP.fit (σ' := ⟨[(1, ⟨u8, f⟩), (5, ⟨.bool, true⟩), (6, ⟨i64, (1048564 : Int)⟩), (7, ⟨.obuf u8, (0 : Nat)⟩)], [(0, some (.buf 5 u8 b0))], 1⟩) ⟨⟨rfl, rfl, rfl, rfl, trivial⟩, ⟨bufEq (by show List.replicate (1048564 + Int.tmod ((o.toNat : Nat) : Int) 3 - 1).toNat (zeroX u8) = b0; rw [hd, ← hn, hb0]; rfl), trivial⟩, rfl, rfl⟩ ?_
  (repeat (first | refine AWP.seq ?_ | refine AWP.skip ?_ | refine AWP.label ?_ | refine AWP.exit ?_ | refine AWP.block ?_ | refine AWP.region hX kW_ok rfl trivial ?_ | refine AWP.region hX kW_ok rfl id ?_ | refine AWP.region hX kW_ok rfl ⟨id, id⟩ ?_))
  refine AWP.loop (ι := Nat × List UInt8) (fun i => ⟨[(1, ⟨u8, f⟩), (5, ⟨.bool, true⟩), (6, ⟨i64, (1048564 : Int)⟩), (7, ⟨.obuf u8, (0 : Nat)⟩), (8, ⟨i64, (i.1 : Int)⟩)], [(0, some (.buf 5 u8 i.2))], 1⟩) (fun i => i.1 ≤ 100 ∧ i.2.length = n) (fun i => 100 - i.1) (0, b0) ⟨Nat.zero_le _, hl0⟩ ⟨⟨rfl, rfl, rfl, rfl, rfl, trivial⟩, ⟨rfl, trivial⟩, rfl, rfl⟩ ?_
  rintro ⟨i, b⟩ ⟨hi, hbl⟩
  simp only at hi hbl
  (repeat (first | refine AWP.seq ?_ | refine AWP.skip ?_ | refine AWP.block ?_ | refine AWP.exit ?_)); refine AWP.region hX kW_ok rfl ?_ ?_
  · trivial
  refine AWP.cond rfl (fun hb => ?_) (fun hb => ?_)
  · have hb : decide ((i : Int) < 100) = true := hb
    have hb := of_decide_eq_true hb
    (repeat (first | refine AWP.seq ?_ | refine AWP.skip ?_ | refine AWP.block ?_ | refine AWP.exit ?_)); refine AWP.region hX kW_ok rfl ?_ ?_
    · exact ⟨by show (0 : Int) ≤ (i : Int); omega, by show (i : Int) < ((b.length : Nat) : Int); omega, by show (i : Int).toNat < b.length; omega⟩
    (repeat (first | refine AWP.seq ?_ | refine AWP.skip ?_ | refine AWP.block ?_ | refine AWP.exit ?_)); refine AWP.region hX kW_ok rfl ?_ ?_
    · exact inR_succ (by omega)
    exact ⟨(i + 1, b.set (i : Int).toNat f), ⟨by show i + 1 ≤ 100; omega, by show (b.set (i : Int).toNat f).length = n; rw [List.length_set]; exact hbl⟩, by show 100 - (i + 1) < 100 - i; omega, ⟨rfl, rfl, rfl, rfl, vSucc _, trivial⟩, ⟨rfl, trivial⟩, rfl, rfl⟩
  · refine AWP.frz hX 7 ?_
    (repeat (first | refine AWP.seq ?_ | refine AWP.skip ?_ | refine AWP.block ?_ | refine AWP.exit ?_)); refine AWP.region hX kW_ok rfl ?_ ?_
    · exact ⟨Nat.zero_le _, by show b.length ≤ 1100000; omega⟩
    have hap : appendS zLog b = if 1048576 < 12 + b.length then (zLog, 2, ()) else ((rcd b, 0, ()), 0, ()) := by
      unfold appendS
      have hv : validL zLog = true := by decide
      have e : zLog.1 = [] := rfl
      rw [if_pos hv, e, recs_nil, if_neg (by simp)]
      simp [zLog]
    by_cases hbig : 1048576 < 12 + b.length
    · rw [if_pos hbig] at hap
      refine AWP.fit (σ' := ⟨[(5, ⟨.bool, true⟩), (6, ⟨i64, (1048564 : Int)⟩), (7, ⟨bs, b⟩), (9, ⟨.optr jl, ⟨1, jl, .here⟩⟩), (10, ⟨i64, (2 : Int)⟩)], [(1, some (.box jl zLog))], 2⟩) ⟨⟨rfl, rfl, rfl, rfl, vI64 (congrArg (fun z => z.2.1) hap), trivial⟩, ⟨boxEq (congrArg (fun z => z.1) hap), trivial⟩, rfl, rfl⟩ ?_
      (repeat (first | refine AWP.seq ?_ | refine AWP.skip ?_ | refine AWP.block ?_ | refine AWP.exit ?_)); refine AWP.region hX kW_ok rfl ?_ ?_
      · trivial
      refine AWP.cond rfl (fun hb => ?_) (fun hb => ?_)
      · (repeat (first | refine AWP.seq ?_ | refine AWP.skip ?_ | refine AWP.block ?_ | refine AWP.exit ?_)); refine AWP.region hX kW_ok rfl ?_ ?_
        · repeat' (first | exact trivial | assumption | (refine ⟨?_, ?_⟩) | (intro _) | exact Nat.le_of_ble_eq_true rfl | exact Int.natCast_nonneg _)
        exact AWP.ret ⟨.inr rfl, done1 rfl trivial rfl rfl rfl⟩
      · have hb : decide (((b.length : Nat) : Int) > 1048564) = false := hb
        have hb := of_decide_eq_false hb
        omega
    · rw [if_neg hbig] at hap
      refine AWP.fit (σ' := ⟨[(5, ⟨.bool, true⟩), (6, ⟨i64, (1048564 : Int)⟩), (7, ⟨bs, b⟩), (9, ⟨.optr jl, ⟨1, jl, .here⟩⟩), (10, ⟨i64, (0 : Int)⟩)], [(1, some (.box jl (rcd b, (0 : Int), ())))], 2⟩) ⟨⟨rfl, rfl, rfl, rfl, vI64 (congrArg (fun z => z.2.1) hap), trivial⟩, ⟨boxEq (congrArg (fun z => z.1) hap), trivial⟩, rfl, rfl⟩ ?_
      (repeat (first | refine AWP.seq ?_ | refine AWP.skip ?_ | refine AWP.block ?_ | refine AWP.exit ?_)); refine AWP.region hX kW_ok rfl ?_ ?_
      · trivial
      refine AWP.cond rfl (fun hb => ?_) (fun hb => ?_)
      · have hb : decide (((b.length : Nat) : Int) > 1048564) = true := hb
        have hb := of_decide_eq_true hb
        omega
      have m1 : inR .i64 (((b.length : Nat) : Int) + 12) := inR_small (by omega) (by omega)
      (repeat (first | refine AWP.seq ?_ | refine AWP.skip ?_ | refine AWP.block ?_ | refine AWP.exit ?_)); refine AWP.region hX kW_ok rfl ?_ ?_
      · repeat' (first | exact trivial | assumption | exact m1 | (refine ⟨?_, ?_⟩) | (intro _) | exact Nat.le_of_ble_eq_true rfl | exact Int.natCast_nonneg _)
      refine AWP.ret ⟨.inr rfl, done1 rfl trivial rfl rfl ?_⟩
      have g : ((((rcd b).length : Nat) : Int) == ((b.length : Nat) : Int) + 12) = true := by
        rw [rcd_length, show (((12 + b.length : Nat) : Int)) = ((b.length : Nat) : Int) + 12 by omega]
        exact beqI _
      exact bif_true (bif_true rfl g) rfl
noncomputable def kX : Kn := { dK with C := [(12, cSanity), (13, cFew), (14, cFilled), (17, cSameL), (26, cSameLog), (27, cValid),
  (20, cAppendS 1100000), (22, cSync), (18, cCrash), (15, cRecords), (21, cRepair),
  (23, cAppendS 800000), (24, cCrash), (25, cRepairM 800000), (28, cRecsR)] }
theorem kX_ok : KnOk Tryd.prog dG kX := dK_ok.with (.cons sanity_ok <| .cons few_ok <| .cons filled_ok <| .cons rsame_ok <| .cons rsameLog_ok <| .cons rvalid_ok <| .cons append_ok <| .cons sync_ok <| .cons crash_ok <| .cons records_ok <| .cons repair_ok <| .cons rappend_ok <| .cons rcrash_ok <| .cons rrepair_ok <| .cons rrecords_ok .nil)
theorem law3_ok : CtrOk Tryd.prog dG 7 (lawCtr [jl, bs, jt]) := by
  refine ctr_of_awp (K := kX) kX_ok Tryd.func7 rfl rfl Tryd.call7 rfl (by decide) (by intro h; cases h) ?_
  rintro w0 X hX ⟨(l : Lg), (b : List UInt8), (t : Tr), _⟩ hp
  change AWP _ _ _ _ _ ⟨[(0, ⟨jl, l⟩), (1, ⟨bs, b⟩), (2, ⟨jt, t⟩)], [], 0⟩ _
  (repeat (first | refine AWP.seq ?_ | refine AWP.skip ?_ | refine AWP.block ?_ | refine AWP.exit ?_)); refine AWP.region hX kX_ok rfl ?_ ?_
  · trivial
  (repeat (first | refine AWP.seq ?_ | refine AWP.skip ?_ | refine AWP.block ?_ | refine AWP.exit ?_)); refine AWP.region hX kX_ok rfl ?_ ?_
  · trivial
  (repeat (first | refine AWP.seq ?_ | refine AWP.skip ?_ | refine AWP.block ?_ | refine AWP.exit ?_)); refine AWP.region hX kX_ok rfl ?_ ?_
  · exact ⟨by show (0 : Int) ≤ min ((l.1.length : Nat) : Int) 400; omega, by show min ((l.1.length : Nat) : Int) 400 ≤ ((l.1.length : Nat) : Int); omega⟩
  (repeat (first | refine AWP.seq ?_ | refine AWP.skip ?_ | refine AWP.block ?_ | refine AWP.exit ?_)); refine AWP.region hX kX_ok rfl ?_ ?_
  · exact ⟨by show (0 : Int) ≤ min ((b.length : Nat) : Int) 60; omega, by show min ((b.length : Nat) : Int) 60 ≤ ((b.length : Nat) : Int); omega⟩
  obtain ⟨k, hk⟩ : ∃ k : Lg, (l.1.take (min ((l.1.length : Nat) : Int) 400).toNat, l.2.1, ()) = k := ⟨_, rfl⟩
  obtain ⟨y, hy⟩ : ∃ y, b.take (min ((b.length : Nat) : Int) 60).toNat = y := ⟨_, rfl⟩
  have hkl : k.1.length ≤ 400 := by rw [← hk]; show (l.1.take _).length ≤ 400; rw [List.length_take]; omega
  have hyl : y.length ≤ 60 := by rw [← hy, List.length_take]; omega
  refine AWP.fit (σ' := ⟨[(3, ⟨.optr jl, ⟨0, jl, .here⟩⟩), (5, ⟨.optr jt, ⟨1, jt, .here⟩⟩), (7, ⟨.bool, true⟩), (8, ⟨bs, y⟩)], [(0, some (.box jl k)), (1, some (.box jt t))], 2⟩) ⟨⟨rfl, rfl, rfl, vBs hy, trivial⟩, ⟨boxEq hk, rfl, trivial⟩, rfl, rfl⟩ ?_
  have q1 : k.1.length ≤ 1100000 := by omega
  have q2 : k.1.length ≤ 800000 := by omega
  (repeat (first | refine AWP.seq ?_ | refine AWP.skip ?_ | refine AWP.block ?_ | refine AWP.exit ?_)); refine AWP.region hX kX_ok rfl ?_ ?_
  · exact ⟨q1, (by omega : y.length ≤ 1100000)⟩
  (repeat (first | refine AWP.seq ?_ | refine AWP.skip ?_ | refine AWP.block ?_ | refine AWP.exit ?_)); refine AWP.region hX kX_ok rfl ?_ ?_
  · exact q1
  (repeat (first | refine AWP.seq ?_ | refine AWP.skip ?_ | refine AWP.block ?_ | refine AWP.exit ?_)); refine AWP.region hX kX_ok rfl ?_ ?_
  · exact q1
  (repeat (first | refine AWP.seq ?_ | refine AWP.skip ?_ | refine AWP.block ?_ | refine AWP.exit ?_)); refine AWP.region hX kX_ok rfl ?_ ?_
  · exact q1
  (repeat (first | refine AWP.seq ?_ | refine AWP.skip ?_ | refine AWP.block ?_ | refine AWP.exit ?_)); refine AWP.region hX kX_ok rfl ?_ ?_
  · exact q1
  (repeat (first | refine AWP.seq ?_ | refine AWP.skip ?_ | refine AWP.block ?_ | refine AWP.exit ?_)); refine AWP.region hX kX_ok rfl ?_ ?_
  · exact ⟨q2, (by omega : y.length ≤ 800000)⟩
  (repeat (first | refine AWP.seq ?_ | refine AWP.skip ?_ | refine AWP.block ?_ | refine AWP.exit ?_)); refine AWP.region hX kX_ok rfl ?_ ?_
  · exact q1
  (repeat (first | refine AWP.seq ?_ | refine AWP.skip ?_ | refine AWP.block ?_ | refine AWP.exit ?_)); refine AWP.region hX kX_ok rfl ?_ ?_
  · exact q2
  refine AWP.fit (σ' := ⟨[(3, ⟨.optr jl, ⟨0, jl, .here⟩⟩), (7, ⟨.bool, true⟩), (9, ⟨.optr jl, ⟨2, jl, .here⟩⟩), (10, ⟨i64, (appendS k y).2.1⟩), (11, ⟨.optr jl, ⟨3, jl, .here⟩⟩), (12, ⟨i64, (crashS k t).2.1⟩), (13, ⟨.optr jl, ⟨4, jl, .here⟩⟩), (14, ⟨i64, (repairS k).2.1⟩), (15, ⟨.slice bs, (recordsS k).1⟩), (16, ⟨i64, (recordsS k).2.1⟩), (17, ⟨i64, (recordsS k).2.2.1⟩), (18, ⟨.optr jl, ⟨5, jl, .here⟩⟩), (19, ⟨i64, (syncS k).2.1⟩), (20, ⟨.optr jl, ⟨6, jl, .here⟩⟩), (21, ⟨i64, (appendS k y).2.1⟩), (22, ⟨.optr jl, ⟨7, jl, .here⟩⟩), (23, ⟨i64, (crashS k t).2.1⟩), (24, ⟨.optr jl, ⟨8, jl, .here⟩⟩), (25, ⟨i64, (repairS k).2.1⟩)],
    [(0, some (.box jl k)), (2, some (.box jl (appendS k y).1)), (3, some (.box jl (crashS k t).1)), (4, some (.box jl (repairS k).1)), (5, some (.box jl (syncS k).1)), (6, some (.box jl (appendS k y).1)), (7, some (.box jl (crashS k t).1)), (8, some (.box jl (repairS k).1))], 9⟩) ⟨⟨rfl, rfl, rfl, rfl, rfl, rfl, rfl, rfl, rfl, rfl, rfl, rfl, rfl, rfl, rfl, rfl, rfl, rfl, rfl, trivial⟩, ⟨rfl, rfl, rfl, rfl, rfl, rfl, rfl, rfl, trivial⟩, rfl, rfl⟩ ?_
  (repeat (first | refine AWP.seq ?_ | refine AWP.skip ?_ | refine AWP.block ?_ | refine AWP.exit ?_)); refine AWP.region hX kX_ok rfl ?_ ?_
  · repeat' (first | exact trivial | assumption | (refine ⟨?_, ?_⟩) | (intro _) | exact Nat.le_of_ble_eq_true rfl | exact Int.natCast_nonneg _)
  refine AWP.cond rfl (fun hb => ?_) (fun hb => ?_)
  · exfalso
    have hb : (bif (bif (bif (bif (bif !sameLog (appendS k y).1 (appendS k y).1 then true else ((appendS k y).2.1 != (appendS k y).2.1)) then true else !sameLog (crashS k t).1 (crashS k t).1) then true else ((crashS k t).2.1 != (crashS k t).2.1)) then true else !sameLog (repairS k).1 (repairS k).1) then true else ((repairS k).2.1 != (repairS k).2.1)) = true := hb
    rw [sameLog_self, sameLog_self, sameLog_self, bneI, bneI, bneI] at hb
    cases hb
  refine AWP.skip ?_
  (repeat (first | refine AWP.seq ?_ | refine AWP.skip ?_ | refine AWP.block ?_ | refine AWP.exit ?_)); refine AWP.region hX kX_ok rfl ?_ ?_
  · trivial
  refine AWP.cond rfl (fun hb => ?_) (fun hb => ?_)
  · have hb : (!validL k) = true := hb
    have hv : ¬ validL k = true := by simpa using hb
    have e1 : recordsS k = ([], 0, 1, ()) := by unfold recordsS; rw [if_neg hv]
    have e2 : syncS k = (zLog, 1, ()) := by unfold syncS; rw [if_neg hv]
    (repeat (first | refine AWP.seq ?_ | refine AWP.skip ?_ | refine AWP.block ?_ | refine AWP.exit ?_)); refine AWP.region hX kX_ok rfl ?_ ?_
    · repeat' (first | exact trivial | assumption | (refine ⟨?_, ?_⟩) | (intro _) | exact Nat.le_of_ble_eq_true rfl | exact Int.natCast_nonneg _)
    refine AWP.ret ⟨.inr rfl, done1 rfl trivial rfl rfl ?_⟩
    show (bif (bif (bif (bif (bif ((recordsS k).2.2.1 == 1) then ((syncS k).2.1 == 1) else false) then (((((recordsS k).1).length : Nat) : Int) == 0) else false) then ((recordsS k).2.1 == 0) else false) then sameLog (syncS k).1 ([], 0, ()) else false) then true else false) = true
    rw [e1, e2]
    exact bif_true (bif_true (bif_true (bif_true (bif_true rfl rfl) rfl) rfl) (sameLog_self zLog)) rfl
  have hb : (!validL k) = false := hb
  have hv : validL k = true := by simpa using hb
  have e1 : recordsS k = ((recs k.1).1, ((recs k.1).2 : Int), 0, ()) := by unfold recordsS; rw [if_pos hv]
  have e2 : syncS k = ((k.1, (k.1.length : Int), ()), 0, ()) := by unfold syncS; rw [if_pos hv]
  refine AWP.skip ?_
  (repeat (first | refine AWP.seq ?_ | refine AWP.skip ?_ | refine AWP.block ?_ | refine AWP.exit ?_)); refine AWP.region hX kX_ok rfl ?_ ?_
  · exact q2
  (repeat (first | refine AWP.seq ?_ | refine AWP.skip ?_ | refine AWP.block ?_ | refine AWP.exit ?_)); refine AWP.region hX kX_ok rfl ?_ ?_
  · repeat' (first | exact trivial | assumption | (refine ⟨?_, ?_⟩) | (intro _) | exact Nat.le_of_ble_eq_true rfl | exact Int.natCast_nonneg _)
  refine AWP.ret ⟨.inr rfl, done1 rfl trivial rfl rfl ?_⟩
  show (bif (bif (bif (bif (bif ((recordsS k).2.2.1 == 0) then ((syncS k).2.1 == 0) else false) then sameL (recordsS k).1 (recs k.1).1 else false) then ((recordsS k).2.1 == ((recs k.1).2 : Int)) else false) then sameLog (syncS k).1 (k.1, (k.1.length : Int), ()) else false) then true else false) = true
  rw [e1, e2]
  exact bif_true (bif_true (bif_true (bif_true (bif_true rfl rfl) (decide_eq_true rfl)) (beqI _)) (sameLog_self _)) rfl
def cMade : Ctr := { args := [.slice bs, i64], pre := fun x => [Few x.1, 0 ≤ (x.2.1 : Int)], res := jl, own := none, out := fun x => fill x.1 (min (Int.toNat x.2.1) (List.length x.1)) }
def kM : Kn := { dK with C := [(23, cAppendS 800000)] }
theorem kM_ok : KnOk Tryd.prog dG kM := dK_ok.with (.cons rappend_ok .nil)
theorem made_ok : CtrOk Tryd.prog dG 29 cMade := by
  refine ctr_of_awp (K := kM) kM_ok Tryd.func29 rfl rfl Tryd.call29 rfl (by decide) (by intro h; cases h) ?_
  rintro w0 X hX ⟨(l : List (List UInt8)), (s : Int), _⟩ hp
  change AWP _ _ _ _ _ ⟨[(0, ⟨.slice bs, l⟩), (1, ⟨i64, s⟩)], [], 0⟩ _
  obtain ⟨hf, hs0⟩ : Few l ∧ 0 ≤ s := hp
  have hlen := hf.1
  (repeat (first | refine AWP.seq ?_ | refine AWP.skip ?_ | refine AWP.block ?_ | refine AWP.exit ?_)); refine AWP.region hX kM_ok rfl ?_ ?_
  · trivial
  (repeat (first | refine AWP.seq ?_ | refine AWP.skip ?_ | refine AWP.block ?_ | refine AWP.exit ?_)); refine AWP.region hX kM_ok rfl ?_ ?_
  · trivial
  (repeat (first | refine AWP.seq ?_ | refine AWP.skip ?_ | refine AWP.label ?_ | refine AWP.exit ?_ | refine AWP.block ?_ | refine AWP.region hX kM_ok rfl trivial ?_ | refine AWP.region hX kM_ok rfl id ?_ | refine AWP.region hX kM_ok rfl ⟨id, id⟩ ?_))
  refine AWP.loop (ι := Nat) (fun k => ⟨[(0, ⟨.slice bs, l⟩), (1, ⟨i64, s⟩), (4, ⟨.optr jl, ⟨0, jl, .here⟩⟩), (5, ⟨.optr jl, ⟨1, jl, .here⟩⟩), (6, ⟨i64, (k : Int)⟩)], [(0, some (.box jl zLog)), (1, some (.box jl (fill (l.take k) (min s.toNat k))))], 2⟩) (fun k => k ≤ l.length) (fun k => l.length - k) 0 (by omega) ⟨⟨rfl, rfl, rfl, rfl, rfl, trivial⟩, ⟨boxEq rfl, boxEq (by simp [fill, cat, zeroX]; rfl), trivial⟩, rfl, rfl⟩ ?_
  intro k hk
  (repeat (first | refine AWP.seq ?_ | refine AWP.skip ?_ | refine AWP.block ?_ | refine AWP.exit ?_)); refine AWP.region hX kM_ok rfl ?_ ?_
  · trivial
  refine AWP.cond rfl (fun hb => ?_) (fun hb => ?_)
  · have hb : decide ((k : Int) < (l.length : Nat)) = true := hb
    have hb := of_decide_eq_true hb
    have hlt : k < l.length := by omega
    have htk : l.take (k + 1) = l.take k ++ [l[k]] := List.take_succ_eq_append_getElem hlt
    have hF : Few (l.take (k + 1)) := ⟨by rw [List.length_take]; omega, fun x hx => hf.2 x (List.mem_of_mem_take hx)⟩
    have hl2 : (l.take k).length = k := by rw [List.length_take]; omega
    have hap : appendS (fill (l.take k) (min s.toNat k)) l[k] = (fill (l.take (k + 1)) (min s.toNat k), 0, ()) := by
      rw [htk]
      exact fill_append (by rw [← htk]; exact hF) (by rw [hl2]; omega)
    have hle : (cat (l.take k)).length ≤ 800000 := by have := few_cat (l := l.take k) (fun x hx => hf.2 x (List.mem_of_mem_take hx)); rw [hl2] at this; omega
    have hg : l.getD (k : Int).toNat [] = l[k] := by rw [Int.toNat_natCast]; exact getD_of_lt hlt
    have hx : (l.getD (k : Int).toNat []).length ≤ 800000 := by rw [hg]; have := hf.2 l[k] (List.getElem_mem _); omega
    have m0 : (0 : Int) ≤ (k : Int) := by omega
    have m1 : (k : Int) < ((l.length : Nat) : Int) := by omega
    (repeat (first | refine AWP.seq ?_ | refine AWP.skip ?_ | refine AWP.block ?_ | refine AWP.exit ?_)); refine AWP.drawN dM hX kM_ok 12 (by kernel_rfl) rfl rfl ?_ ?_ ?_
    · repeat' (first | exact trivial | assumption | exact m0 | exact m1 | exact hle | exact hx | (refine ⟨?_, ?_⟩) | (intro _) | exact Nat.le_of_ble_eq_true rfl | exact Int.natCast_nonneg _)
    · trivial
    have hap' : appendS (fill (l.take k) (min s.toNat k)) (l.getD (k : Int).toNat []) = (fill (l.take (k + 1)) (min s.toNat k), 0, ()) := by rw [hg]; exact hap
    refine AWP.fit (σ' := ⟨[(0, ⟨.slice bs, l⟩), (1, ⟨i64, s⟩), (4, ⟨.optr jl, ⟨0, jl, .here⟩⟩), (5, ⟨.optr jl, ⟨1, jl, .here⟩⟩), (6, ⟨i64, (k : Int)⟩), (7, ⟨.optr jl, ⟨2, jl, .here⟩⟩), (8, ⟨i64, (0 : Int)⟩)], [(0, some (.box jl zLog)), (1, some (.box jl (fill (l.take k) (min s.toNat k)))), (2, some (.box jl (fill (l.take (k + 1)) (min s.toNat k))))], 3⟩) ⟨⟨rfl, rfl, rfl, rfl, rfl, rfl, vI64 (congrArg (fun z => z.2.1) hap'), trivial⟩, ⟨rfl, rfl, boxEq (congrArg (fun z => z.1) hap'), trivial⟩, rfl, rfl⟩ ?_
    (repeat (first | refine AWP.seq ?_ | refine AWP.skip ?_ | refine AWP.block ?_ | refine AWP.exit ?_)); refine AWP.region hX kM_ok rfl ?_ ?_
    · trivial
    refine AWP.cond rfl (fun hb => ?_) (fun hb => ?_)
    rotate_left
    · exact absurd hb (by decide)
    (repeat (first | refine AWP.seq ?_ | refine AWP.skip ?_ | refine AWP.block ?_ | refine AWP.exit ?_)); refine AWP.region hX kM_ok rfl ?_ ?_
    · trivial
    (repeat (first | refine AWP.seq ?_ | refine AWP.skip ?_ | refine AWP.block ?_ | refine AWP.exit ?_)); refine AWP.region hX kM_ok rfl ?_ ?_
    · trivial
    refine AWP.cond rfl (fun hb => ?_) (fun hb => ?_)
    · have hb : decide ((k : Int) < s) = true := hb
      have hb := of_decide_eq_true hb
      (repeat (first | refine AWP.seq ?_ | refine AWP.skip ?_ | refine AWP.block ?_ | refine AWP.exit ?_)); refine AWP.region hX kM_ok rfl ?_ ?_
      · trivial
      (repeat (first | refine AWP.seq ?_ | refine AWP.skip ?_ | refine AWP.block ?_ | refine AWP.exit ?_)); refine AWP.region hX kM_ok rfl ?_ ?_
      · exact inR_succ (by omega)
      refine ⟨k + 1, by omega, by omega, ⟨rfl, rfl, rfl, rfl, vSucc _, trivial⟩, ⟨rfl, boxEq ?_, trivial⟩, rfl, rfl⟩
      show (cat (l.take (k + 1)), (((cat (l.take (k + 1))).length : Nat) : Int), ()) = fill (l.take (k + 1)) (min s.toNat (k + 1))
      unfold fill
      rw [show min s.toNat (k + 1) = k + 1 by omega, List.take_take, Nat.min_self]
    · have hb : decide ((k : Int) < s) = false := hb
      have hb := of_decide_eq_false hb
      refine AWP.skip ?_
      (repeat (first | refine AWP.seq ?_ | refine AWP.skip ?_ | refine AWP.block ?_ | refine AWP.exit ?_)); refine AWP.region hX kM_ok rfl ?_ ?_
      · exact inR_succ (by omega)
      exact ⟨k + 1, by omega, by omega, ⟨rfl, rfl, rfl, rfl, vSucc _, trivial⟩, ⟨rfl, boxEq (by rw [show min s.toNat (k + 1) = min s.toNat k by omega]), trivial⟩, rfl, rfl⟩
  · have hb : decide ((k : Int) < (l.length : Nat)) = false := hb
    have hb := of_decide_eq_false hb
    have : k = l.length := by omega
    subst this
    rw [List.take_length]
    (repeat (first | refine AWP.seq ?_ | refine AWP.skip ?_ | refine AWP.block ?_ | refine AWP.exit ?_)); refine AWP.region hX kM_ok rfl ?_ ?_
    · trivial
    exact AWP.ret ⟨.inr rfl, done1 rfl trivial rfl rfl rfl⟩
noncomputable def kY : Kn := { dK with C := (29, cMade) :: kX.C }
theorem kY_ok : KnOk Tryd.prog dG kY := dK_ok.with (.cons made_ok kX_ok.c)
theorem law6_ok : CtrOk Tryd.prog dG 8 (lawCtr [.slice bs, u8, jt]) := by
  refine ctr_of_awp (K := kY) kY_ok Tryd.func8 rfl rfl Tryd.call8 rfl (by decide) (by intro h; cases h) ?_
  rintro w0 X hX ⟨(l : List (List UInt8)), (s : UInt8), (t : Tr), _⟩ hp
  change AWP _ _ _ _ _ ⟨[(0, ⟨.slice bs, l⟩), (1, ⟨u8, s⟩), (2, ⟨jt, t⟩)], [], 0⟩ _
  have hF := few_few l
  (repeat (first | refine AWP.seq ?_ | refine AWP.skip ?_ | refine AWP.block ?_ | refine AWP.exit ?_)); refine AWP.region hX kY_ok rfl ?_ ?_
  · trivial
  (repeat (first | refine AWP.seq ?_ | refine AWP.skip ?_ | refine AWP.block ?_ | refine AWP.exit ?_)); refine AWP.region hX kY_ok rfl ?_ ?_
  · trivial
  (repeat (first | refine AWP.seq ?_ | refine AWP.skip ?_ | refine AWP.block ?_ | refine AWP.exit ?_)); refine AWP.region hX kY_ok rfl ?_ ?_
  · trivial
  obtain ⟨x, hx⟩ : ∃ x, (l.take 8).map (List.take 60) = x := ⟨_, rfl⟩
  rw [hx] at hF
  refine AWP.fit (σ' := ⟨[(1, ⟨u8, s⟩), (5, ⟨.optr jt, ⟨0, jt, .here⟩⟩), (7, ⟨.bool, true⟩), (8, ⟨.slice bs, x⟩)], [(0, some (.box jt t))], 1⟩) ⟨⟨rfl, rfl, rfl, vSs hx, trivial⟩, ⟨rfl, trivial⟩, rfl, rfl⟩ ?_
  have hnn : 0 ≤ Int.tmod ((s.toNat : Nat) : Int) 9 := Int.tmod_nonneg _ (by omega)
  have h9 : (9 : Int) ≠ 0 := by omega
  (repeat (first | refine AWP.seq ?_ | refine AWP.skip ?_ | refine AWP.block ?_ | refine AWP.exit ?_)); refine AWP.region hX kY_ok rfl ?_ ?_
  · exact ⟨h9, hF, hnn⟩
  (repeat (first | refine AWP.seq ?_ | refine AWP.skip ?_ | refine AWP.block ?_ | refine AWP.exit ?_)); refine AWP.region hX kY_ok rfl ?_ ?_
  · exact ⟨h9, hF, hnn⟩
  obtain ⟨m, hm⟩ : ∃ m, min (Int.toNat (Int.tmod ((s.toNat : Nat) : Int) 9)) x.length = m := ⟨_, rfl⟩
  refine AWP.fit (σ' := ⟨[(5, ⟨.optr jt, ⟨0, jt, .here⟩⟩), (7, ⟨.bool, true⟩), (9, ⟨.optr jl, ⟨1, jl, .here⟩⟩), (10, ⟨.bool, true⟩), (11, ⟨.optr jl, ⟨2, jl, .here⟩⟩)], [(0, some (.box jt t)), (1, some (.box jl (fill x m))), (2, some (.box jl (fill x m)))], 3⟩) ⟨⟨rfl, rfl, rfl, rfl, rfl, trivial⟩, ⟨rfl, boxEq (by rw [← hm]; rfl), boxEq (by rw [← hm]; rfl), trivial⟩, rfl, rfl⟩ ?_
  have hlen := hF.1
  have hcat := few_cat hF.2
  obtain ⟨k, hk⟩ : ∃ k, fill x m = k := ⟨_, rfl⟩
  have hkl : k.1.length ≤ 576 := by rw [← hk]; show (cat x).length ≤ 576; omega
  have hcl : (crashS k t).1.1.length ≤ 576 := by
    unfold crashS
    split
    · rename_i h
      exact Nat.le_trans (crB_length t h.1).1 hkl
    · exact Nat.zero_le _
  rw [hk]
  (repeat (first | refine AWP.seq ?_ | refine AWP.skip ?_ | refine AWP.block ?_ | refine AWP.exit ?_)); refine AWP.region hX kY_ok rfl ?_ ?_
  · repeat' (first | exact trivial | assumption | (refine ⟨?_, ?_⟩) | (intro _) | exact Nat.le_of_ble_eq_true rfl | exact Int.natCast_nonneg _)
  refine AWP.cond rfl (fun hb => ?_) (fun hb => ?_)
  · exfalso
    have hb : (bif false then true else !sameLog k k) = true := hb
    rw [sameLog_self] at hb
    cases hb
  refine AWP.skip ?_
  (repeat (first | refine AWP.seq ?_ | refine AWP.skip ?_ | refine AWP.block ?_ | refine AWP.exit ?_)); refine AWP.region hX kY_ok rfl ?_ ?_
  · exact (by omega : k.1.length ≤ 1100000)
  (repeat (first | refine AWP.seq ?_ | refine AWP.skip ?_ | refine AWP.block ?_ | refine AWP.exit ?_)); refine AWP.region hX kY_ok rfl ?_ ?_
  · exact (by omega : k.1.length ≤ 1100000)
  (repeat (first | refine AWP.seq ?_ | refine AWP.skip ?_ | refine AWP.block ?_ | refine AWP.exit ?_)); refine AWP.region hX kY_ok rfl ?_ ?_
  · exact (by omega : (crashS k t).1.1.length ≤ 1100000)
  (repeat (first | refine AWP.seq ?_ | refine AWP.skip ?_ | refine AWP.block ?_ | refine AWP.exit ?_)); refine AWP.region hX kY_ok rfl ?_ ?_
  · exact (by omega : (crashS k t).1.1.length ≤ 800000)
  (repeat (first | refine AWP.seq ?_ | refine AWP.skip ?_ | refine AWP.block ?_ | refine AWP.exit ?_)); refine AWP.region hX kY_ok rfl ?_ ?_
  · repeat' (first | exact trivial | assumption | (refine ⟨?_, ?_⟩) | (intro _) | exact Nat.le_of_ble_eq_true rfl | exact Int.natCast_nonneg _)
  refine AWP.ret ⟨.inr rfl, done1 rfl trivial rfl rfl ?_⟩
  exact bif_true (bif_true (bif_true (bif_true (sameLog_self _) (beqI _)) (sameLog_self _)) (beqI _)) rfl
end Go.Proofs.YtggappighcdbmaaDoor
