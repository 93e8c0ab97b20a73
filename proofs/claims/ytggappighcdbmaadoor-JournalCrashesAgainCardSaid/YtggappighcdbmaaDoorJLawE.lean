/-
  The statements of chapter 23: JournalDurability, JournalTornByte.
-/
import Derived.Test.YtggappighcdbmaaDoorJLawD
import Derived.Test.YtggappighcdbmaaDoorJCr
namespace Go.Proofs.YtggappighcdbmaaDoor
open Go Go.RowKit
set_option linter.unusedSimpArgs false
set_option linter.unusedVariables false
set_option maxRecDepth 100000
abbrev tj (t : Tr) : Tr := (t.1, -1, t.2.2.1, ())
theorem law2_ok : CtrOk Tryd.prog dG 4 (lawCtr [.slice bs, u8, jt]) := by
  refine ctr_of_awp (K := kW) kW_ok Tryd.func4 rfl rfl Tryd.call4 rfl (by decide) (by intro h; cases h) ?_
  rintro w0 X hX ⟨(l : List (List UInt8)), (s : UInt8), (t : Tr), _⟩ hp
  change AWP _ _ _ _ _ ⟨[(0, ⟨.slice bs, l⟩), (1, ⟨u8, s⟩), (2, ⟨jt, t⟩)], [], 0⟩ _
  have hF := few_few l
  (repeat (first | refine AWP.seq ?_ | refine AWP.skip ?_ | refine AWP.block ?_ | refine AWP.exit ?_)); refine AWP.region hX kW_ok rfl ?_ ?_
  · trivial
  (repeat (first | refine AWP.seq ?_ | refine AWP.skip ?_ | refine AWP.block ?_ | refine AWP.exit ?_)); refine AWP.region hX kW_ok rfl ?_ ?_
  · trivial
  (repeat (first | refine AWP.seq ?_ | refine AWP.skip ?_ | refine AWP.block ?_ | refine AWP.exit ?_)); refine AWP.region hX kW_ok rfl ?_ ?_
  · trivial
  obtain ⟨x, hx⟩ : ∃ x, (l.take 8).map (List.take 60) = x := ⟨_, rfl⟩
  rw [hx] at hF
  refine AWP.fit (σ' := ⟨[(1, ⟨u8, s⟩), (5, ⟨.optr jt, ⟨0, jt, .here⟩⟩), (7, ⟨.bool, true⟩), (8, ⟨.slice bs, x⟩)], [(0, some (.box jt t))], 1⟩) ⟨⟨rfl, rfl, rfl, vSs hx, trivial⟩, ⟨rfl, trivial⟩, rfl, rfl⟩ ?_
  (repeat (first | refine AWP.seq ?_ | refine AWP.skip ?_ | refine AWP.block ?_ | refine AWP.exit ?_)); refine AWP.region hX kW_ok rfl ?_ ?_
  · exact (by decide : (9 : Int) ≠ 0)
  have hmn : (0 : Int) ≤ min (Int.tmod ((s.toNat : Nat) : Int) 9) ((x.length : Nat) : Int) := by
    have : 0 ≤ Int.tmod ((s.toNat : Nat) : Int) 9 := Int.tmod_nonneg _ (by omega)
    omega
  obtain ⟨m, hm⟩ := Int.eq_ofNat_of_zero_le hmn
  have hmx : m ≤ x.length := by omega
  refine AWP.fit (σ' := ⟨[(5, ⟨.optr jt, ⟨0, jt, .here⟩⟩), (7, ⟨.bool, true⟩), (8, ⟨.slice bs, x⟩), (9, ⟨i64, (m : Int)⟩)], [(0, some (.box jt t))], 1⟩) ⟨⟨rfl, rfl, rfl, vI64 hm, trivial⟩, ⟨rfl, trivial⟩, rfl, rfl⟩ ?_
  (repeat (first | refine AWP.seq ?_ | refine AWP.skip ?_ | refine AWP.block ?_ | refine AWP.exit ?_)); refine AWP.region hX kW_ok rfl ?_ ?_
  · exact ⟨hF, Int.natCast_nonneg _⟩
  have hmm : min (m : Int).toNat x.length = m := by omega
  refine AWP.fit (σ' := ⟨[(5, ⟨.optr jt, ⟨0, jt, .here⟩⟩), (7, ⟨.bool, true⟩), (8, ⟨.slice bs, x⟩), (9, ⟨i64, (m : Int)⟩), (10, ⟨.optr jl, ⟨1, jl, .here⟩⟩), (11, ⟨.bool, true⟩)], [(0, some (.box jt t)), (1, some (.box jl (fill x m)))], 2⟩) ⟨⟨rfl, rfl, rfl, rfl, rfl, rfl, trivial⟩, ⟨rfl, boxEq (congrArg (fill x) hmm), trivial⟩, rfl, rfl⟩ ?_
  have hlen := hF.1
  have hcat := few_cat hF.2
  have hsm := few_small hF.2
  have hle : (fill x m).1.length ≤ 1100000 := by show (cat x).length ≤ 1100000; omega
  have hv := fill_valid hF m
  have hsy : (fill x m).2.1.toNat = (cat (x.take m)).length := Int.toNat_natCast _
  have htk : (fill x m).1.take (fill x m).2.1.toNat = cat (x.take m) := by
    rw [hsy]
    show (cat x).take _ = _
    have e : cat x = cat (x.take m) ++ cat (x.drop m) := by rw [← cat_append, List.take_append_drop]
    rw [e, List.take_left]
  (repeat (first | refine AWP.seq ?_ | refine AWP.skip ?_ | refine AWP.block ?_ | refine AWP.exit ?_)); refine AWP.region hX kW_ok rfl ?_ ?_
  · trivial
  refine AWP.cond rfl (fun hb => ?_) (fun hb => ?_)
  · exact absurd hb (by decide)
  (repeat (first | refine AWP.seq ?_ | refine AWP.skip ?_ | refine AWP.block ?_ | refine AWP.exit ?_)); refine AWP.region hX kW_ok rfl ?_ ?_
  · exact hle
  (repeat (first | refine AWP.seq ?_ | refine AWP.skip ?_ | refine AWP.block ?_ | refine AWP.exit ?_)); refine AWP.region hX kW_ok rfl ?_ ?_
  · trivial
  refine AWP.cond rfl (fun hb => ?_) (fun hb => ?_)
  · have hb : decide (t.1 < 0) = true := hb
    have hb := of_decide_eq_true hb
    (repeat (first | refine AWP.seq ?_ | refine AWP.skip ?_ | refine AWP.block ?_ | refine AWP.exit ?_)); refine AWP.region hX kW_ok rfl ?_ ?_
    · repeat' (first | exact trivial | assumption | (refine ⟨?_, ?_⟩) | (intro _) | exact Nat.le_of_ble_eq_true rfl | exact Int.natCast_nonneg _)
    refine AWP.ret ⟨.inr rfl, done1 rfl trivial rfl rfl ?_⟩
    show (bif (crashS (fill x m) t).2.1 == 1 then true else false) = true
    rw [crash_bad hb]
    rfl
  have hb : decide (t.1 < 0) = false := hb
  have hk : 0 ≤ t.1 := by have := of_decide_eq_false hb; omega
  have hcr := crash_good hv hk
  obtain ⟨b1, b2⟩ := crB_length t hv
  have hcv := crB_valid t hv
  have hrc := records_good hcv
  have hpre := crash_keeps (k := x.take m) t hv (fun y hy => hsm y (List.mem_of_mem_take hy)) htk
  obtain ⟨B, hB⟩ : ∃ B, crB (fill x m) t = B := ⟨_, rfl⟩
  obtain ⟨y, hy⟩ : ∃ y, (fill x m).2.1 = y := ⟨_, rfl⟩
  rw [hB, hy] at hcr hcv hrc
  rw [hB] at hpre b1
  refine AWP.fit (σ' := ⟨[(5, ⟨.optr jt, ⟨0, jt, .here⟩⟩), (7, ⟨.bool, true⟩), (8, ⟨.slice bs, x⟩), (9, ⟨i64, (m : Int)⟩), (10, ⟨.optr jl, ⟨1, jl, .here⟩⟩), (12, ⟨.optr jl, ⟨2, jl, .here⟩⟩), (13, ⟨i64, (0 : Int)⟩)], [(0, some (.box jt t)), (1, some (.box jl (fill x m))), (2, some (.box jl (B, y, ())))], 3⟩) ⟨⟨rfl, rfl, rfl, rfl, rfl, rfl, vI64 (congrArg (fun z => z.2.1) hcr), trivial⟩, ⟨rfl, rfl, boxEq (congrArg (fun z => z.1) hcr), trivial⟩, rfl, rfl⟩ ?_
  (repeat (first | refine AWP.seq ?_ | refine AWP.skip ?_ | refine AWP.block ?_ | refine AWP.exit ?_)); refine AWP.region hX kW_ok rfl ?_ ?_
  · exact (by omega : B.length ≤ 1100000)
  refine AWP.fit (σ' := ⟨[(5, ⟨.optr jt, ⟨0, jt, .here⟩⟩), (7, ⟨.bool, true⟩), (8, ⟨.slice bs, x⟩), (9, ⟨i64, (m : Int)⟩), (10, ⟨.optr jl, ⟨1, jl, .here⟩⟩), (12, ⟨.optr jl, ⟨2, jl, .here⟩⟩), (13, ⟨i64, (0 : Int)⟩), (14, ⟨.slice bs, (recs B).1⟩), (16, ⟨i64, (0 : Int)⟩)], [(0, some (.box jt t)), (1, some (.box jl (fill x m))), (2, some (.box jl (B, y, ())))], 3⟩) ⟨⟨rfl, rfl, rfl, rfl, rfl, rfl, rfl, vSs (congrArg (fun z => z.1) hrc), vI64 (congrArg (fun z => z.2.2.1) hrc), trivial⟩, ⟨rfl, rfl, rfl, trivial⟩, rfl, rfl⟩ ?_
  have m0 : (0 : Int) ≤ (m : Int) := by omega
  have m1 : (m : Int) ≤ ((x.length : Nat) : Int) := by omega
  (repeat (first | refine AWP.seq ?_ | refine AWP.skip ?_ | refine AWP.block ?_ | refine AWP.exit ?_)); refine AWP.region hX kW_ok rfl ?_ ?_
  · repeat' (first | exact trivial | assumption | exact m0 | exact m1 | (refine ⟨?_, ?_⟩) | (intro _) | exact Nat.le_of_ble_eq_true rfl | exact Int.natCast_nonneg _)
  have hto : (m : Int).toNat = m := Int.toNat_natCast m
  refine AWP.cond rfl (fun hb => ?_) (fun hb => ?_)
  · exfalso
    have hb : (!decide (x.take (m : Int).toNat <+: (recs B).1)) = true := hb
    rw [hto, decide_eq_true hpre] at hb
    cases hb
  (repeat (first | refine AWP.seq ?_ | refine AWP.skip ?_ | refine AWP.block ?_ | refine AWP.exit ?_)); refine AWP.region hX kW_ok rfl ?_ ?_
  · trivial
  refine AWP.fit (σ' := ⟨[(5, ⟨.optr jt, ⟨0, jt, .here⟩⟩), (7, ⟨.bool, true⟩), (8, ⟨.slice bs, x⟩), (9, ⟨i64, (m : Int)⟩), (10, ⟨.optr jl, ⟨1, jl, .here⟩⟩), (12, ⟨.optr jl, ⟨2, jl, .here⟩⟩)], [(0, some (.box jt (tj t))), (1, some (.box jl (fill x m))), (2, some (.box jl (B, y, ())))], 3⟩) ⟨⟨rfl, rfl, rfl, rfl, rfl, rfl, trivial⟩, ⟨rfl, rfl, rfl, trivial⟩, rfl, rfl⟩ ?_
  (repeat (first | refine AWP.seq ?_ | refine AWP.skip ?_ | refine AWP.block ?_ | refine AWP.exit ?_)); refine AWP.region hX kW_ok rfl ?_ ?_
  · exact hle
  have hk2 : 0 ≤ (tj t).1 := hk
  have hcr2 := crash_good hv hk2
  have hcl := crB_clean (l := fill x m) (t := tj t) (by show (-1 : Int) < 0; omega)
  obtain ⟨e1, e2⟩ := crB_length (tj t) hv
  have hcv2 := crB_valid (tj t) hv
  have hrc2 := records_good hcv2
  have hpre2 := crash_keeps (k := x.take m) (tj t) hv (fun y hy => hsm y (List.mem_of_mem_take hy)) htk
  obtain ⟨C, hC⟩ : ∃ C, crB (fill x m) (tj t) = C := ⟨_, rfl⟩
  rw [hC, hy] at hcr2 hcv2 hrc2
  rw [hC] at hpre2 e1 hcl
  have hpart := recs_part x hsm ((fill x m).2.1.toNat + (tj t).1.toNat)
  have hpart : (recs C).1 <+: x := by rw [hcl]; exact hpart
  refine AWP.fit (σ' := ⟨[(7, ⟨.bool, true⟩), (8, ⟨.slice bs, x⟩), (9, ⟨i64, (m : Int)⟩), (12, ⟨.optr jl, ⟨2, jl, .here⟩⟩), (13, ⟨i64, (0 : Int)⟩)], [(2, some (.box jl (C, y, ())))], 3⟩) ⟨⟨rfl, rfl, rfl, rfl, vI64 (congrArg (fun z => z.2.1) hcr2), trivial⟩, ⟨boxEq (congrArg (fun z => z.1) hcr2), trivial⟩, rfl, rfl⟩ ?_
  (repeat (first | refine AWP.seq ?_ | refine AWP.skip ?_ | refine AWP.block ?_ | refine AWP.exit ?_)); refine AWP.region hX kW_ok rfl ?_ ?_
  · exact (by omega : C.length ≤ 1100000)
  refine AWP.fit (σ' := ⟨[(7, ⟨.bool, true⟩), (8, ⟨.slice bs, x⟩), (9, ⟨i64, (m : Int)⟩), (12, ⟨.optr jl, ⟨2, jl, .here⟩⟩), (13, ⟨i64, (0 : Int)⟩), (17, ⟨.slice bs, (recs C).1⟩), (18, ⟨i64, ((recs C).2 : Int)⟩), (19, ⟨i64, (0 : Int)⟩)], [(2, some (.box jl (C, y, ())))], 3⟩) ⟨⟨rfl, rfl, rfl, rfl, rfl, vSs (congrArg (fun z => z.1) hrc2), vI64 (congrArg (fun z => z.2.1) hrc2), vI64 (congrArg (fun z => z.2.2.1) hrc2), trivial⟩, ⟨rfl, trivial⟩, rfl, rfl⟩ ?_
  (repeat (first | refine AWP.seq ?_ | refine AWP.skip ?_ | refine AWP.block ?_ | refine AWP.exit ?_)); refine AWP.region hX kW_ok rfl ?_ ?_
  · repeat' (first | exact trivial | assumption | exact m0 | exact m1 | (refine ⟨?_, ?_⟩) | (intro _) | exact Nat.le_of_ble_eq_true rfl | exact Int.natCast_nonneg _)
  refine AWP.ret ⟨.inr rfl, done1 rfl trivial rfl rfl ?_⟩
  have hle3 := recs_le C
  have g1 : decide (((recs C).2 : Int) ≤ ((C.length : Nat) : Int)) = true := decide_eq_true (by omega)
  have g2 : decide (x.take (m : Int).toNat <+: (recs C).1) = true := by rw [hto]; exact decide_eq_true hpre2
  have g3 : decide ((recs C).1 <+: x) = true := decide_eq_true hpart
  exact bif_true (bif_true (bif_true (bif_true (bif_true rfl rfl) g1) g2) g3) rfl
theorem law4_ok : CtrOk Tryd.prog dG 5 (lawCtr [.slice bs, .int .u16, jt]) := by
  refine ctr_of_awp (K := kW) kW_ok Tryd.func5 rfl rfl Tryd.call5 rfl (by decide) (by intro h; cases h) ?_
  rintro w0 X hX ⟨(l : List (List UInt8)), (kp : BitVec 16), (t : Tr), _⟩ hp
  change AWP _ _ _ _ _ ⟨[(0, ⟨.slice bs, l⟩), (1, ⟨.int .u16, kp⟩), (2, ⟨jt, t⟩)], [], 0⟩ _
  have hF := few_few l
  (repeat (first | refine AWP.seq ?_ | refine AWP.skip ?_ | refine AWP.block ?_ | refine AWP.exit ?_)); refine AWP.region hX kW_ok rfl ?_ ?_
  · trivial
  (repeat (first | refine AWP.seq ?_ | refine AWP.skip ?_ | refine AWP.block ?_ | refine AWP.exit ?_)); refine AWP.region hX kW_ok rfl ?_ ?_
  · trivial
  (repeat (first | refine AWP.seq ?_ | refine AWP.skip ?_ | refine AWP.block ?_ | refine AWP.exit ?_)); refine AWP.region hX kW_ok rfl ?_ ?_
  · trivial
  obtain ⟨x, hx⟩ : ∃ x, (l.take 8).map (List.take 60) = x := ⟨_, rfl⟩
  rw [hx] at hF
  refine AWP.fit (σ' := ⟨[(1, ⟨.int .u16, kp⟩), (5, ⟨.optr jt, ⟨0, jt, .here⟩⟩), (7, ⟨.bool, true⟩), (8, ⟨.slice bs, x⟩)], [(0, some (.box jt t))], 1⟩) ⟨⟨rfl, rfl, rfl, vSs hx, trivial⟩, ⟨rfl, trivial⟩, rfl, rfl⟩ ?_
  (repeat (first | refine AWP.seq ?_ | refine AWP.skip ?_ | refine AWP.block ?_ | refine AWP.exit ?_)); refine AWP.region hX kW_ok rfl ?_ ?_
  · exact ⟨hF, Int.le_refl _⟩
  have hmm : min (0 : Int).toNat x.length = 0 := by omega
  refine AWP.fit (σ' := ⟨[(1, ⟨.int .u16, kp⟩), (5, ⟨.optr jt, ⟨0, jt, .here⟩⟩), (7, ⟨.bool, true⟩), (8, ⟨.slice bs, x⟩), (9, ⟨.optr jl, ⟨1, jl, .here⟩⟩), (10, ⟨.bool, true⟩)], [(0, some (.box jt t)), (1, some (.box jl (fill x 0)))], 2⟩) ⟨⟨rfl, rfl, rfl, rfl, rfl, rfl, trivial⟩, ⟨rfl, boxEq (congrArg (fill x) hmm), trivial⟩, rfl, rfl⟩ ?_
  have hlen := hF.1
  have hcat := few_cat hF.2
  have hsm := few_small hF.2
  have hle : (fill x 0).1.length ≤ 1100000 := by show (cat x).length ≤ 1100000; omega
  have hv := fill_valid hF 0
  have hsy : (fill x 0).2.1 = 0 := rfl
  obtain ⟨t', ht'⟩ : ∃ t' : Tr, (((kp.toNat : Nat) : Int), t.2.1, t.2.2.1, ()) = t' := ⟨_, rfl⟩
  have hk : 0 ≤ t'.1 := by rw [← ht']; exact Int.natCast_nonneg _
  have hta : t'.2.1 = t.2.1 := by rw [← ht']
  (repeat (first | refine AWP.seq ?_ | refine AWP.skip ?_ | refine AWP.block ?_ | refine AWP.exit ?_)); refine AWP.region hX kW_ok rfl ?_ ?_
  · trivial
  refine AWP.cond rfl (fun hb => ?_) (fun hb => ?_)
  · exact absurd hb (by decide)
  (repeat (first | refine AWP.seq ?_ | refine AWP.skip ?_ | refine AWP.block ?_ | refine AWP.exit ?_)); refine AWP.region hX kW_ok rfl ?_ ?_
  · exact hle
  have hcr := crash_good hv hk
  obtain ⟨b1, b2⟩ := crB_length t' hv
  have hcv := crB_valid t' hv
  have hrc := records_good hcv
  have hbef := fun n => crB_before (l := fill x 0) (t := t') hsy n
  obtain ⟨B, hB⟩ : ∃ B, crB (fill x 0) t' = B := ⟨_, rfl⟩
  rw [hB, hsy] at hcr hcv hrc
  rw [hB] at b1 hbef
  refine AWP.fit (σ' := ⟨[(5, ⟨.optr jt, ⟨0, jt, .here⟩⟩), (7, ⟨.bool, true⟩), (8, ⟨.slice bs, x⟩), (11, ⟨.optr jl, ⟨2, jl, .here⟩⟩), (12, ⟨i64, (0 : Int)⟩)], [(0, some (.box jt t)), (2, some (.box jl (B, (0 : Int), ())))], 3⟩) ⟨⟨rfl, rfl, rfl, rfl, vI64 (by rw [← ht'] at hcr; exact congrArg (fun z => z.2.1) hcr), trivial⟩, ⟨rfl, boxEq (by rw [← ht'] at hcr; exact congrArg (fun z => z.1) hcr), trivial⟩, rfl, rfl⟩ ?_
  (repeat (first | refine AWP.seq ?_ | refine AWP.skip ?_ | refine AWP.block ?_ | refine AWP.exit ?_)); refine AWP.region hX kW_ok rfl ?_ ?_
  · exact (by omega : B.length ≤ 1100000)
  refine AWP.fit (σ' := ⟨[(5, ⟨.optr jt, ⟨0, jt, .here⟩⟩), (7, ⟨.bool, true⟩), (8, ⟨.slice bs, x⟩), (11, ⟨.optr jl, ⟨2, jl, .here⟩⟩), (12, ⟨i64, (0 : Int)⟩), (13, ⟨.slice bs, (recs B).1⟩), (15, ⟨i64, (0 : Int)⟩)], [(0, some (.box jt t)), (2, some (.box jl (B, (0 : Int), ())))], 3⟩) ⟨⟨rfl, rfl, rfl, rfl, rfl, vSs (congrArg (fun z => z.1) hrc), vI64 (congrArg (fun z => z.2.2.1) hrc), trivial⟩, ⟨rfl, rfl, trivial⟩, rfl, rfl⟩ ?_
  (repeat (first | refine AWP.seq ?_ | refine AWP.skip ?_ | refine AWP.block ?_ | refine AWP.exit ?_)); refine AWP.region hX kW_ok rfl ?_ ?_
  · repeat' (first | exact trivial | assumption | (refine ⟨?_, ?_⟩) | (intro _) | exact Nat.le_of_ble_eq_true rfl | exact Int.natCast_nonneg _)
  refine AWP.cond rfl (fun hb => ?_) (fun hb => ?_)
  · exact absurd hb (by decide)
  (repeat (first | refine AWP.seq ?_ | refine AWP.skip ?_ | refine AWP.block ?_ | refine AWP.exit ?_)); refine AWP.region hX kW_ok rfl ?_ ?_
  · trivial
  obtain ⟨lim, hlim⟩ : ∃ lim : Nat, (if 0 ≤ t.2.1 ∧ t.2.1 < ((B.length : Nat) : Int) then t.2.1.toNat else B.length) = lim := ⟨_, rfl⟩
  refine AWP.join (σ' := ⟨[(7, ⟨.bool, true⟩), (8, ⟨.slice bs, x⟩), (13, ⟨.slice bs, (recs B).1⟩), (16, ⟨i64, (lim : Int)⟩)], [], 3⟩) ?_ ?_
  · (repeat (first | refine AWP.seq ?_ | refine AWP.skip ?_ | refine AWP.block ?_ | refine AWP.exit ?_)); refine AWP.region hX kW_ok rfl ?_ ?_
    · repeat' (first | exact trivial | assumption | (refine ⟨?_, ?_⟩) | (intro _) | exact Nat.le_of_ble_eq_true rfl | exact Int.natCast_nonneg _)
    refine AWP.cond rfl (fun hb => ?_) (fun hb => ?_)
    · have hb : (bif decide (t.2.1 ≥ 0) then decide (t.2.1 < (B.length : Nat)) else false) = true := hb
      rw [test2] at hb
      (repeat (first | refine AWP.seq ?_ | refine AWP.skip ?_ | refine AWP.block ?_ | refine AWP.exit ?_)); refine AWP.region hX kW_ok rfl ?_ ?_
      · trivial
      exact ⟨⟨rfl, rfl, rfl, vI64 (by show t.2.1 = (lim : Int); rw [← hlim, if_pos ⟨hb.1, hb.2⟩]; have := hb.1; omega), trivial⟩, trivial, rfl, rfl⟩
    · have hb : (bif decide (t.2.1 ≥ 0) then decide (t.2.1 < (B.length : Nat)) else false) = false := hb
      have hb : ¬ (t.2.1 ≥ 0 ∧ t.2.1 < ((B.length : Nat) : Int)) := fun h => by rw [← Bool.not_eq_true, test2] at hb; exact hb h
      refine AWP.skip ?_
      exact ⟨⟨rfl, rfl, rfl, vI64 (by show ((B.length : Nat) : Int) = (lim : Int); rw [← hlim, if_neg (fun h => hb ⟨h.1, h.2⟩)]), trivial⟩, trivial, rfl, rfl⟩
  have hl1 : lim ≤ B.length := by
    rw [← hlim]
    split
    · omega
    · exact Nat.le_refl _
  have hl2 : B.take lim = (cat x).take lim := hbef lim hl1 fun h1 h2 => by
    rw [hta] at h1 h2 ⊢
    rw [← hlim, if_pos ⟨h1, h2⟩]
    omega
  (repeat (first | refine AWP.seq ?_ | refine AWP.skip ?_ | refine AWP.block ?_ | refine AWP.exit ?_)); refine AWP.region hX kW_ok rfl ?_ ?_
  · trivial
  (repeat (first | refine AWP.seq ?_ | refine AWP.skip ?_ | refine AWP.label ?_ | refine AWP.exit ?_ | refine AWP.block ?_ | refine AWP.region hX kW_ok rfl trivial ?_ | refine AWP.region hX kW_ok rfl id ?_ | refine AWP.region hX kW_ok rfl ⟨id, id⟩ ?_))
  refine AWP.loop (ι := Nat × Nat) (fun i => ⟨[(7, ⟨.bool, true⟩), (8, ⟨.slice bs, x⟩), (13, ⟨.slice bs, (recs B).1⟩), (16, ⟨i64, (lim : Int)⟩), (17, ⟨i64, (i.2 : Int)⟩), (18, ⟨i64, (((cat (x.take i.1)).length : Nat) : Int)⟩), (19, ⟨i64, (i.1 : Int)⟩)], [], 3⟩) (fun i => i.1 ≤ x.length ∧ i.2 ≤ i.1 ∧ (cat (x.take i.2)).length ≤ lim) (fun i => x.length - i.1) (0, 0) ⟨Nat.zero_le _, Nat.le_refl _, Nat.zero_le _⟩ ⟨⟨rfl, rfl, rfl, rfl, rfl, rfl, rfl, trivial⟩, trivial, rfl, rfl⟩ ?_
  rintro ⟨k, wh⟩ ⟨hk1, hk2, hk3⟩
  simp only at hk1 hk2 hk3
  (repeat (first | refine AWP.seq ?_ | refine AWP.skip ?_ | refine AWP.block ?_ | refine AWP.exit ?_)); refine AWP.region hX kW_ok rfl ?_ ?_
  · trivial
  refine AWP.cond rfl (fun hb => ?_) (fun hb => ?_)
  · have hb : decide ((k : Int) < (x.length : Nat)) = true := hb
    have hb := of_decide_eq_true hb
    have hlt : k < x.length := by omega
    have hg : x.getD (k : Int).toNat [] = x[k] := by rw [Int.toNat_natCast]; exact getD_of_lt hlt
    have hxl := hF.2 x[k] (List.getElem_mem _)
    have hsz := cat_take_succ x k hlt
    have hle2 := cat_take_le x (k + 1)
    (repeat (first | refine AWP.seq ?_ | refine AWP.skip ?_ | refine AWP.block ?_ | refine AWP.exit ?_)); refine AWP.region hX kW_ok rfl ?_ ?_
    · refine ⟨inR_small (by omega) (by show (((cat (x.take k)).length : Nat) : Int) + 12 ≤ _; omega), by omega, by show (k : Int) < (x.length : Nat); omega, ?_⟩
      show inR .i64 ((((cat (x.take k)).length : Nat) : Int) + 12 + (((x.getD (k : Int).toNat []).length : Nat) : Int))
      rw [hg]
      exact inR_small (by omega) (by omega)
    refine AWP.fit (σ' := ⟨[(7, ⟨.bool, true⟩), (8, ⟨.slice bs, x⟩), (13, ⟨.slice bs, (recs B).1⟩), (16, ⟨i64, (lim : Int)⟩), (17, ⟨i64, (wh : Int)⟩), (18, ⟨i64, (((cat (x.take (k + 1))).length : Nat) : Int)⟩), (19, ⟨i64, (k : Int)⟩)], [], 3⟩) ⟨⟨rfl, rfl, rfl, rfl, rfl, vI64 (by show (((cat (x.take k)).length : Nat) : Int) + 12 + (((x.getD (k : Int).toNat []).length : Nat) : Int) = _; rw [hg]; omega), rfl, trivial⟩, trivial, rfl, rfl⟩ ?_
    (repeat (first | refine AWP.seq ?_ | refine AWP.skip ?_ | refine AWP.block ?_ | refine AWP.exit ?_)); refine AWP.region hX kW_ok rfl ?_ ?_
    · trivial
    refine AWP.cond rfl (fun hb => ?_) (fun hb => ?_)
    · have hb : decide ((((cat (x.take (k + 1))).length : Nat) : Int) ≤ (lim : Int)) = true := hb
      have hb := of_decide_eq_true hb
      (repeat (first | refine AWP.seq ?_ | refine AWP.skip ?_ | refine AWP.block ?_ | refine AWP.exit ?_)); refine AWP.region hX kW_ok rfl ?_ ?_
      · exact inR_succ (by omega)
      (repeat (first | refine AWP.seq ?_ | refine AWP.skip ?_ | refine AWP.block ?_ | refine AWP.exit ?_)); refine AWP.region hX kW_ok rfl ?_ ?_
      · exact inR_succ (by omega)
      exact ⟨(k + 1, k + 1), ⟨by show k + 1 ≤ x.length; omega, Nat.le_refl _, by show (cat (x.take (k + 1))).length ≤ lim; omega⟩, by show x.length - (k + 1) < x.length - k; omega, ⟨rfl, rfl, rfl, rfl, vSucc _, rfl, vSucc _, trivial⟩, trivial, rfl, rfl⟩
    · refine AWP.skip ?_
      (repeat (first | refine AWP.seq ?_ | refine AWP.skip ?_ | refine AWP.block ?_ | refine AWP.exit ?_)); refine AWP.region hX kW_ok rfl ?_ ?_
      · exact inR_succ (by omega)
      exact ⟨(k + 1, wh), ⟨by show k + 1 ≤ x.length; omega, by show wh ≤ k + 1; omega, hk3⟩, by show x.length - (k + 1) < x.length - k; omega, ⟨rfl, rfl, rfl, rfl, rfl, rfl, vSucc _, trivial⟩, trivial, rfl, rfl⟩
  · have hb : decide ((k : Int) < (x.length : Nat)) = false := hb
    have hb := of_decide_eq_false hb
    have m0 : (0 : Int) ≤ (wh : Int) := by omega
    have m1 : (wh : Int) ≤ ((x.length : Nat) : Int) := by omega
    have hpre := recs_agree x hsm wh lim B hl2 hk3
    (repeat (first | refine AWP.seq ?_ | refine AWP.skip ?_ | refine AWP.block ?_ | refine AWP.exit ?_)); refine AWP.region hX kW_ok rfl ?_ ?_
    · repeat' (first | exact trivial | assumption | exact m0 | exact m1 | (refine ⟨?_, ?_⟩) | (intro _) | exact Nat.le_of_ble_eq_true rfl | exact Int.natCast_nonneg _)
    refine AWP.ret ⟨.inr rfl, done1 rfl trivial rfl rfl ?_⟩
    have g2 : decide (x.take (wh : Int).toNat <+: (recs B).1) = true := by rw [Int.toNat_natCast]; exact decide_eq_true hpre
    exact bif_true g2 rfl
end Go.Proofs.YtggappighcdbmaaDoor
