/-
  The reference of chapter 23: Repair, Crash, Made.
-/
import Derived.Test.YtggappighcdbmaaDoorJPrgC
import Derived.Test.YtggappighcdbmaaDoorJFill
import Derived.Test.YtggappighcdbmaaDoorAbsMore
namespace Go.Proofs.YtggappighcdbmaaDoor
open Go Go.RowKit
set_option linter.unusedSimpArgs false
set_option linter.unusedVariables false
set_option maxRecDepth 100000
def cRepairM (m : Nat) : Ctr := { args := [jl], pre := fun x => [List.length x.1.1 ≤ m], res := .tup jl (.tup i64 .unit), own := none, out := fun x => repairS x.1 }
theorem rrepair_ok : CtrOk Tryd.prog dG 25 (cRepairM 800000) := by
  refine ctr_of_awp (K := kR4) kR4_ok Tryd.func25 rfl rfl Tryd.call25 rfl (by decide) (by intro h; cases h) ?_
  rintro w0 X hX ⟨(l : Lg), _⟩ hp
  change AWP _ _ _ _ _ ⟨[(0, ⟨jl, l⟩)], [], 0⟩ _
  have p1 : l.1.length ≤ 800000 := hp
  have hle := recs_le l.1
  (repeat (first | refine AWP.seq ?_ | refine AWP.skip ?_ | refine AWP.block ?_ | refine AWP.exit ?_)); refine AWP.region hX kR4_ok rfl ?_ ?_
  · trivial
  (repeat (first | refine AWP.seq ?_ | refine AWP.skip ?_ | refine AWP.block ?_ | refine AWP.exit ?_)); refine AWP.region hX kR4_ok rfl ?_ ?_
  · trivial
  (repeat (first | refine AWP.seq ?_ | refine AWP.skip ?_ | refine AWP.block ?_ | refine AWP.exit ?_)); refine AWP.region hX kR4_ok rfl ?_ ?_
  · trivial
  refine AWP.cond rfl (fun hb => ?_) (fun hb => ?_)
  · have hb : (!validL l) = true := hb
    have hv : ¬ validL l = true := by simpa using hb
    (repeat (first | refine AWP.seq ?_ | refine AWP.skip ?_ | refine AWP.label ?_ | refine AWP.exit ?_ | refine AWP.block ?_ | refine AWP.region hX kR4_ok rfl trivial ?_ | refine AWP.region hX kR4_ok rfl id ?_ | refine AWP.region hX kR4_ok rfl ⟨id, id⟩ ?_))
    refine AWP.ret ⟨.inr rfl, done2 (by decide) rfl rfl trivial ?_⟩
    show (zLog, (1 : Int), ()) = repairS l
    unfold repairS
    rw [if_neg hv]
  have hb : (!validL l) = false := hb
  have hv : validL l = true := by simpa using hb
  (repeat (first | refine AWP.seq ?_ | refine AWP.skip ?_ | refine AWP.block ?_ | refine AWP.exit ?_)); refine AWP.region hX kR4_ok rfl ?_ ?_
  · exact p1
  (repeat (first | refine AWP.seq ?_ | refine AWP.skip ?_ | refine AWP.block ?_ | refine AWP.exit ?_)); refine AWP.region hX kR4_ok rfl ?_ ?_
  · trivial
  refine AWP.cond rfl (fun hb => ?_) (fun hb => ?_)
  · have hb : decide (((recs l.1).2 : Int) < l.2.1) = true := hb
    have hb := of_decide_eq_true hb
    (repeat (first | refine AWP.seq ?_ | refine AWP.skip ?_ | refine AWP.label ?_ | refine AWP.exit ?_ | refine AWP.block ?_ | refine AWP.region hX kR4_ok rfl trivial ?_ | refine AWP.region hX kR4_ok rfl id ?_ | refine AWP.region hX kR4_ok rfl ⟨id, id⟩ ?_))
    refine AWP.ret ⟨.inr rfl, done2 (by decide) rfl rfl trivial ?_⟩
    show (zLog, (10 : Int), ()) = repairS l
    unfold repairS
    rw [if_pos hv, if_pos hb]
  have hb : decide (((recs l.1).2 : Int) < l.2.1) = false := hb
  have hb1 := of_decide_eq_false hb
  (repeat (first | refine AWP.seq ?_ | refine AWP.skip ?_ | refine AWP.block ?_ | refine AWP.exit ?_)); refine AWP.region hX kR4_ok rfl ?_ ?_
  · refine ⟨by show (0 : Int) ≤ (((recs l.1).2 : Nat) : Int); omega, by show (((recs l.1).2 : Nat) : Int) ≤ ((l.1.length : Nat) : Int); omega, ?_⟩
    show 0 + (l.1.take (((recs l.1).2 : Nat) : Int).toNat).length ≤ 1000000000
    rw [List.length_take]; omega
  refine AWP.ret ⟨.inr rfl, done2 (by decide) rfl rfl trivial ?_⟩
  show ((l.1.take (((recs l.1).2 : Nat) : Int).toNat, (((recs l.1).2 : Nat) : Int), ()), (0 : Int), ()) = repairS l
  unfold repairS
  rw [if_pos hv, if_neg hb1, Int.toNat_natCast]
theorem rcrash_ok : CtrOk Tryd.prog dG 24 cCrash := by
  refine ctr_of_awp (K := kR4) kR4_ok Tryd.func24 rfl rfl Tryd.call24 rfl (by decide) (by intro h; cases h) ?_
  rintro w0 X hX ⟨(l : Lg), (t : Tr), _⟩ hp
  change AWP _ _ _ _ _ ⟨[(0, ⟨jl, l⟩), (1, ⟨jt, t⟩)], [], 0⟩ _
  have p1 : l.1.length ≤ 1100000 := hp
  (repeat (first | refine AWP.seq ?_ | refine AWP.skip ?_ | refine AWP.block ?_ | refine AWP.exit ?_)); refine AWP.region hX kR4_ok rfl ?_ ?_
  · trivial
  (repeat (first | refine AWP.seq ?_ | refine AWP.skip ?_ | refine AWP.block ?_ | refine AWP.exit ?_)); refine AWP.region hX kR4_ok rfl ?_ ?_
  · trivial
  (repeat (first | refine AWP.seq ?_ | refine AWP.skip ?_ | refine AWP.block ?_ | refine AWP.exit ?_)); refine AWP.region hX kR4_ok rfl ?_ ?_
  · repeat' (first | exact trivial | assumption | (refine ⟨?_, ?_⟩) | (intro _) | exact Nat.le_of_ble_eq_true rfl | exact Int.natCast_nonneg _)
  refine AWP.cond rfl (fun hb => ?_) (fun hb => ?_)
  · have hb : (bif !validL l then true else decide (t.1 < 0)) = true := hb
    (repeat (first | refine AWP.seq ?_ | refine AWP.skip ?_ | refine AWP.label ?_ | refine AWP.exit ?_ | refine AWP.block ?_ | refine AWP.region hX kR4_ok rfl trivial ?_ | refine AWP.region hX kR4_ok rfl id ?_ | refine AWP.region hX kR4_ok rfl ⟨id, id⟩ ?_))
    refine AWP.ret ⟨.inr rfl, done2 (by decide) rfl rfl trivial ?_⟩
    show (zLog, (1 : Int), ()) = crashS l t
    unfold crashS
    rw [if_neg]
    rintro ⟨h1, h2⟩
    rw [h1, decide_eq_false (by omega)] at hb
    cases hb
  have hb : (bif !validL l then true else decide (t.1 < 0)) = false := hb
  have hv : validL l = true := by
    cases h : validL l with
    | true => rfl
    | false => rw [h] at hb; cases hb
  have hk : 0 ≤ t.1 := by
    rw [hv] at hb
    have : decide (t.1 < 0) = false := hb
    have := of_decide_eq_false this
    omega
  obtain ⟨⟨s1, s2⟩, s3⟩ := validL_iff.1 hv
  (repeat (first | refine AWP.seq ?_ | refine AWP.skip ?_ | refine AWP.block ?_ | refine AWP.exit ?_)); refine AWP.region hX kR4_ok rfl ?_ ?_
  · refine ⟨s1, s2, ?_⟩
    show 0 + (l.1.drop l.2.1.toNat).length ≤ 1000000000
    rw [List.length_drop]; omega
  obtain ⟨r0, hr0⟩ : ∃ r0, l.1.drop l.2.1.toNat = r0 := ⟨_, rfl⟩
  have hl0 : r0.length ≤ l.1.length := by rw [← hr0, List.length_drop]; omega
  obtain ⟨r1, hr1⟩ : ∃ r1, r0.take t.1.toNat = r1 := ⟨_, rfl⟩
  have hl1 : r1.length ≤ r0.length := by rw [← hr1, List.length_take]; omega
  refine AWP.fit (σ' := ⟨[(2, ⟨.optr jl, ⟨0, jl, .here⟩⟩), (3, ⟨.optr jt, ⟨1, jt, .here⟩⟩), (4, ⟨.optr jl, ⟨2, jl, .here⟩⟩), (7, ⟨.obuf u8, (3 : Nat)⟩)], [(0, some (.box jl l)), (1, some (.box jt t)), (2, some (.box jl zLog)), (3, some (.buf 5 u8 r0))], 4⟩) ⟨⟨rfl, rfl, rfl, rfl, trivial⟩, ⟨rfl, rfl, rfl, bufEq hr0, trivial⟩, rfl, rfl⟩ ?_
  refine AWP.join (σ' := ⟨[(2, ⟨.optr jl, ⟨0, jl, .here⟩⟩), (3, ⟨.optr jt, ⟨1, jt, .here⟩⟩), (4, ⟨.optr jl, ⟨2, jl, .here⟩⟩), (7, ⟨.obuf u8, (3 : Nat)⟩)], [(0, some (.box jl l)), (1, some (.box jt t)), (2, some (.box jl zLog)), (3, some (.buf 5 u8 r1))], 4⟩) ?_ ?_
  · (repeat (first | refine AWP.seq ?_ | refine AWP.skip ?_ | refine AWP.block ?_ | refine AWP.exit ?_)); refine AWP.region hX kR4_ok rfl ?_ ?_
    · trivial
    refine AWP.cond rfl (fun hb => ?_) (fun hb => ?_)
    · have hb : decide (t.1 < ((r0.length : Nat) : Int)) = true := hb
      have hb := of_decide_eq_true hb
      (repeat (first | refine AWP.seq ?_ | refine AWP.skip ?_ | refine AWP.block ?_ | refine AWP.exit ?_)); refine AWP.region hX kCut_ok rfl ?_ ?_
      · exact ⟨hk, by show t.1 ≤ ((r0.length : Nat) : Int); omega⟩
      exact ⟨⟨rfl, rfl, rfl, rfl, trivial⟩, ⟨rfl, rfl, rfl, bufEq hr1, trivial⟩, rfl, rfl⟩
    · have hb : decide (t.1 < ((r0.length : Nat) : Int)) = false := hb
      have hb := of_decide_eq_false hb
      refine AWP.skip ?_
      exact ⟨⟨rfl, rfl, rfl, rfl, trivial⟩, ⟨rfl, rfl, rfl, bufEq (by rw [← hr1, List.take_of_length_le (by omega)]), trivial⟩, rfl, rfl⟩
  obtain ⟨r2, hr2⟩ : ∃ r2, torn (l.1.drop l.2.1.toNat) t = r2 := ⟨_, rfl⟩
  have ht : torn (l.1.drop l.2.1.toNat) t = if 0 ≤ t.2.1 ∧ t.2.1 < (r1.length : Nat) then r1.set t.2.1.toNat t.2.2.1 else r1 := by
    unfold torn
    rw [hr0, hr1]
  refine AWP.join (σ' := ⟨[(2, ⟨.optr jl, ⟨0, jl, .here⟩⟩), (3, ⟨.optr jt, ⟨1, jt, .here⟩⟩), (4, ⟨.optr jl, ⟨2, jl, .here⟩⟩), (7, ⟨.obuf u8, (3 : Nat)⟩)], [(0, some (.box jl l)), (1, some (.box jt t)), (2, some (.box jl zLog)), (3, some (.buf 5 u8 r2))], 4⟩) ?_ ?_
  · (repeat (first | refine AWP.seq ?_ | refine AWP.skip ?_ | refine AWP.block ?_ | refine AWP.exit ?_)); refine AWP.region hX kR4_ok rfl ?_ ?_
    · repeat' (first | exact trivial | assumption | (refine ⟨?_, ?_⟩) | (intro _) | exact Nat.le_of_ble_eq_true rfl | exact Int.natCast_nonneg _)
    refine AWP.cond rfl (fun hb => ?_) (fun hb => ?_)
    · have hb : (bif decide ((0 : Int) ≤ t.2.1) then decide (t.2.1 < (r1.length : Nat)) else false) = true := hb
      rw [test2] at hb
      obtain ⟨b1, b2⟩ := hb
      have b3 : t.2.1.toNat < r1.length := by omega
      (repeat (first | refine AWP.seq ?_ | refine AWP.skip ?_ | refine AWP.block ?_ | refine AWP.exit ?_)); refine AWP.region hX kR4_ok rfl ?_ ?_
      · exact ⟨b1, b2, b3⟩
      exact ⟨⟨rfl, rfl, rfl, rfl, trivial⟩, ⟨rfl, rfl, rfl, bufEq (by rw [← hr2, ht, if_pos ⟨b1, b2⟩]), trivial⟩, rfl, rfl⟩
    · have hb : (bif decide ((0 : Int) ≤ t.2.1) then decide (t.2.1 < (r1.length : Nat)) else false) = false := hb
      have hb : ¬ (0 ≤ t.2.1 ∧ t.2.1 < ((r1.length : Nat) : Int)) := fun h => by rw [← Bool.not_eq_true, test2] at hb; exact hb h
      refine AWP.skip ?_
      exact ⟨⟨rfl, rfl, rfl, rfl, trivial⟩, ⟨rfl, rfl, rfl, bufEq (by rw [← hr2, ht, if_neg hb]), trivial⟩, rfl, rfl⟩
  have hl2 : r2.length = r1.length := by
    rw [← hr2, ht]
    split
    · rw [List.length_set]
    · rfl
  (repeat (first | refine AWP.seq ?_ | refine AWP.skip ?_ | refine AWP.block ?_ | refine AWP.exit ?_)); refine AWP.region hX kR4_ok rfl ?_ ?_
  · refine ⟨s1, s2, ?_⟩
    show 0 + (l.1.take l.2.1.toNat).length ≤ 1000000000
    rw [List.length_take]; omega
  obtain ⟨r3, hr3⟩ : ∃ r3, l.1.take l.2.1.toNat = r3 := ⟨_, rfl⟩
  have hl3 : r3.length ≤ l.1.length := by rw [← hr3, List.length_take]; omega
  have q1 : r3.length + r2.length ≤ 1000000000 := by omega
  refine AWP.fit (σ' := ⟨[(2, ⟨.optr jl, ⟨0, jl, .here⟩⟩), (4, ⟨.optr jl, ⟨2, jl, .here⟩⟩), (7, ⟨.obuf u8, (3 : Nat)⟩), (8, ⟨.obuf u8, (4 : Nat)⟩)], [(0, some (.box jl l)), (2, some (.box jl zLog)), (3, some (.buf 5 u8 r2)), (4, some (.buf 5 u8 r3))], 5⟩) ⟨⟨rfl, rfl, rfl, rfl, trivial⟩, ⟨rfl, rfl, rfl, bufEq hr3, trivial⟩, rfl, rfl⟩ ?_
  (repeat (first | refine AWP.seq ?_ | refine AWP.skip ?_ | refine AWP.block ?_ | refine AWP.exit ?_)); refine AWP.orders (σ' := ⟨[(4, ⟨.optr jl, ⟨2, jl, .here⟩⟩), (5, ⟨i64, (0 : Int)⟩)], [(2, some (.box jl (r3 ++ r2, l.2.1, ())))], 5⟩) dM hX kR4_ok 8 rfl (by kernel_rfl) [[0, 1, 2, 3, 4, 5, 6, 7], [0, 1, 3, 2, 4, 5, 6, 7], [0, 1, 3, 4, 2, 5, 6, 7], [0, 3, 1, 2, 4, 5, 6, 7],  [0, 3, 1, 4, 2, 5, 6, 7], [0, 3, 4, 1, 2, 5, 6, 7], [1, 0, 2, 3, 4, 5, 6, 7], [1, 0, 3, 2, 4, 5, 6, 7],  [1, 0, 3, 4, 2, 5, 6, 7], [1, 3, 0, 2, 4, 5, 6, 7], [1, 3, 0, 4, 2, 5, 6, 7], [1, 3, 4, 0, 2, 5, 6, 7],  [3, 0, 1, 2, 4, 5, 6, 7], [3, 0, 1, 4, 2, 5, 6, 7], [3, 0, 4, 1, 2, 5, 6, 7], [3, 1, 0, 2, 4, 5, 6, 7],  [3, 1, 0, 4, 2, 5, 6, 7], [3, 1, 4, 0, 2, 5, 6, 7], [3, 4, 0, 1, 2, 5, 6, 7], [3, 4, 1, 0, 2, 5, 6, 7]] (by kernel_rfl) ?_ ?_
  · repeat' (first | exact AllL.nil | exact q1 | refine AllL.cons (LinOk.mk rfl ?_ ⟨⟨rfl, rfl, trivial⟩, ⟨rfl, trivial⟩, rfl, rfl⟩) ?_)
  refine AWP.ret ⟨.inr rfl, done2 (by decide) rfl rfl trivial ?_⟩
  show ((r3 ++ r2, l.2.1, ()), (0 : Int), ()) = crashS l t
  unfold crashS
  rw [if_pos ⟨hv, hk⟩, hr2, hr3]
end Go.Proofs.YtggappighcdbmaaDoor
